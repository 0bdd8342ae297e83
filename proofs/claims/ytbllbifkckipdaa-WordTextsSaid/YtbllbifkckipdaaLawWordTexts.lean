/- The walk of umlautlaw02.WordTexts: it returns true. Condition: none. -/
import Derived.Test.YtbllbifkckipdaaAwake02
import Derived.Test.YtbllbifkckipdaaText
namespace Go.Proofs.Ytbllbifkckipdaa
open Go.RowKit
set_option linter.unusedVariables false

theorem strOf_append (a b : List Int) : strOfNums a ++ strOfNums b = strOfNums (a ++ b) := by
  apply ByteArray.ext
  simp [strOfNums]

set_option maxRecDepth 100000 in
set_option maxHeartbeats 4000000 in
theorem WordTexts_walk (a0 : Option Addr) (len0 cap0 : Nat) (z0 : List Int) (w : World) (w0 : IsRow .i32 w a0 len0 cap0 z0) :
    Calls Try.prog 7 #[.slice a0 len0 cap0] w fun e w' => e = .returned (.bool true) ∧ Below w.heap.size w w' := by
  by_cases hlong : 2000 < len0
  · clear w0
    go_enter Try.func7, Try.ntmps7
    go_wp2_with (go_at_call 18; refine (awake02_any _).out.mono ?_; rintro e w' ⟨rfl, hb⟩)
    go_ret
    exact ⟨rfl, hb⟩
  have h := Lib.hid w0.ints
  clear w0
  generalize List.take len0 z0 = xs at h
  go_enter Try.func7, Try.ntmps7
  go_wp2_with fail
  refine (Text_any _ _ _ xs _ h.out (by omega)).mono ?_
  rintro e w1 hT
  obtain ⟨S, ok, rfl, HOK, HS, hb⟩ : ∃ S ok, e = .returned (.tuple #[.string S, .bool ok]) ∧ Hid (ok = xs.all (inB 2)) ∧ Hid (S = if ok then strOfNums (encW xs) else ByteArray.empty) ∧ Below w.heap.size w w1 := by
    rcases hT with ⟨hall, rfl, hb⟩ | ⟨hall, rfl, hb⟩
    · exact ⟨_, true, rfl, hall.symm, rfl, hb⟩
    · exact ⟨_, false, rfl, hall.symm, rfl, hb⟩
  have H1 := Lib.hid (h.out.below hb)
  have HB := Lib.hid hb
  clear h hb hT
  go_wp2_with fail
  go_loopw [5, 6] (fun s i wr => ∃ k : Nat, k ≤ len0 ∧ i = .int .i64 k ∧ s = .string (strOfNums (encW (xs.take k))) ∧ Below w1.heap.size w1 wr) (fun _ i _ => len0 - (intOf i).toNat)
  case atStart => exact ⟨0, Nat.zero_le _, rfl, rfl, Below.refl _ _⟩
  case round =>
  obtain ⟨k, hk, rfl, rfl, hbel⟩ := hrel
  have HBE := Lib.hid hbel
  clear hbel
  by_cases hlt : k < len0
  · obtain ⟨b, off, x, rfl, hx, hc⟩ := H1.out.at_ hlt
    have hc1 := (HBE.out.cell (lt_of_cell hc)).trans hc
    have hl1 := encW_len (xs.take k)
    rw [List.length_take] at hl1
    have hs1 : (strOfNums (encW (xs.take k))).size ≤ 8000 := by rw [strOfNums_size]; omega
    have hs2 : (strOfNums (rbytes x)).size ≤ 4 := by rw [strOfNums_size]; exact rbytes_len x
    have HE : Hid (strOfNums (encW (xs.take k)) ++ strOfNums (rbytes x) = strOfNums (encW (xs.take (k + 1)))) := by
      unfold Hid
      rw [strOf_append, take_snoc? hx, encW_snoc]
    clear hx hc hl1
    go_wp2_with fail
    refine (rBytes_any _ _).mono ?_
    rintro e w2 ⟨A2, n2, c2, rfl, hA2, hn2, hc2, hb2⟩
    have hcv := run_conv_str (P := Try.prog) w2 25 5 Try.underlying25 Try.underlying5 A2 n2 c2 _ hA2 9 Try.underlying9
    have HB2 := Lib.hid (below_to HBE.out hb2)
    generalize strOfNums (rbytes x) = T at *
    generalize strOfNums (encW (xs.take k)) = U at *
    clear hb2 hA2 hc1
    go_wp2_with fail
    go_roundw
    case rel => exact ⟨k + 1, by omega, by go_num, by rw [HE.out], HB2.out⟩
    case measure => simp [intOf]; omega
  · have hkn : k = len0 := by omega
    subst hkn
    have HR := rFits_any 2 a0 k cap0 xs wr (H1.out.below HBE.out) (by omega)
    rw [← HOK.out] at HR
    have HRR := Lib.hid HR
    have HU : Hid (ok = true → S = strOfNums (encW (xs.take k))) := Lib.hid fun h => by
      rw [HS.out, if_pos h, List.take_of_length_le (by have := H1.out.len; omega)]
    have HV : Hid (ok = false → S = ByteArray.empty) := Lib.hid fun h => by rw [HS.out, h]; rfl
    clear HR HS HOK
    generalize strOfNums (encW (xs.take k)) = U at *
    cases ok
    · have e := HV.out rfl
      subst e
      clear HU HV
      go_wp2_with fail
      refine HRR.out.mono ?_
      rintro e w' ⟨rfl, rfl⟩
      go_wp2_with (go_at_call 18; refine (awake02_any _).out.mono ?_; rintro e w' ⟨rfl, hb⟩)
      go_ret
      exact ⟨rfl, below_to (below_to HB.out HBE.out) hb⟩
    · have e := HU.out rfl
      subst e
      clear HU HV
      go_wp2_with fail
      refine HRR.out.mono ?_
      rintro e w' ⟨rfl, rfl⟩
      go_wp2_with (go_at_call 18; refine (awake02_any _).out.mono ?_; rintro e w' ⟨rfl, hb⟩)
      go_ret
      exact ⟨rfl, below_to (below_to HB.out HBE.out) hb⟩
end Go.Proofs.Ytbllbifkckipdaa
