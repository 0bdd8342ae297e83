/- The walk of umlautlaw02.WordRaws: it returns true. Condition: none. -/
import Derived.Test.YtbllbifkckipdaaAwake02
import Derived.Test.YtbllbifkckipdaaConv
namespace Go.Proofs.Ytbllbifkckipdaa
open Go.RowKit
set_option linter.unusedVariables false

theorem WordRaws_long (A B : Option Addr) (n c m d : Nat) (w : World) (h : 2000 < n ∨ 2000 < m) : Gives Try.prog 6 #[.slice A n c, .slice B m d] w (.bool true) := by
  unfold Gives
  by_cases h1 : 2000 < n
  · clear h
    go_enter Try.func6, Try.ntmps6
    go_wp2_with (go_at_call 18; refine (awake02_any _).out.mono ?_; rintro e w' ⟨rfl, hb⟩)
    go_ret
    exact ⟨rfl, hb⟩
  · have h2 : 2000 < m := by omega
    clear h
    go_enter Try.func6, Try.ntmps6
    go_wp2_with (go_at_call 18; refine (awake02_any _).out.mono ?_; rintro e w' ⟨rfl, hb⟩)
    go_ret
    exact ⟨rfl, hb⟩

set_option maxRecDepth 100000 in
set_option maxHeartbeats 4000000 in
theorem WordRaws_walk (a0 : Option Addr) (len0 cap0 : Nat) (z0 : List Int) (a1 : Option Addr) (len1 cap1 : Nat) (z1 : List Int) (w : World) (w0 : IsRow .u8 w a0 len0 cap0 z0) (w1 : IsRow .i32 w a1 len1 cap1 z1) :
    Calls Try.prog 6 #[.slice a0 len0 cap0, .slice a1 len1 cap1] w fun e w' => e = .returned (.bool true) ∧ Below w.heap.size w w' := by
  by_cases hlong : 2000 < len0 ∨ 2000 < len1
  · exact WordRaws_long a0 a1 len0 cap0 len1 cap1 w hlong
  have h1 : ¬ 2000 < len0 := by omega
  have h2 : ¬ 2000 < len1 := by omega
  clear hlong
  have h := Lib.hid w0.ints
  have h' := Lib.hid w1.ints
  have hx : Hid (∀ x ∈ z0.take len0, 0 ≤ x ∧ x ≤ 255) := fun x hx => bounds_u8 (w0.wf x hx)
  clear w0 w1
  generalize List.take len0 z0 = xs at h hx
  generalize List.take len1 z1 = ys at h'
  go_enter Try.func6, Try.ntmps6
  go_wp2_with fail
  refine (Raw_any _ _ _ xs _ h.out hx.out (by omega)).mono ?_
  rintro e wa ⟨A, n, c, rfl, hA, hn, hc, hb1⟩
  have e1 : n = len0 := hA.len.symm.trans h.out.len
  subst e1
  have HA := Lib.hid hA; clear hA
  have ha := Lib.hid (h.out.below hb1); clear h
  have ha' := Lib.hid (h'.out.below hb1); clear h'
  go_wp2_with fail
  refine (Bytes_any _ _ _ xs _ HA.out (by omega)).mono ?_
  rintro e wb hB
  rcases hB with ⟨hall, A2, n2, c2, rfl, hA2, hn2, hc2, hb2⟩ | ⟨hall, _⟩
  case inr =>
    exfalso
    rw [List.all_eq_false] at hall
    obtain ⟨x, hm, hf⟩ := hall
    exact hf (by have := hx.out x hm; simp [inB]; omega)
  clear hall
  have e1 : n2 = n := hA2.len.symm.trans HA.out.len
  subst e1
  have HA2 := Lib.hid hA2; clear hA2
  have HAb := Lib.hid (HA.out.below hb2); clear HA
  have hc1 := Lib.hid (ha.out.below hb2); clear ha
  have hc1' := Lib.hid (ha'.out.below hb2); clear ha'
  have hb12 := Lib.hid (below_to hb1 hb2); clear hb1 hb2
  go_wp2_with fail
  refine (Bytes_any _ _ _ ys _ hc1'.out (by omega)).mono ?_
  rintro e wc hB
  obtain ⟨A3, n3, c3, bs, rfl, HBS, HT, HF, hb3⟩ : ∃ A3 n3 c3 bs, e = .returned (.tuple #[.slice A3 n3 c3, .bool bs]) ∧ Hid (bs = ys.all (inB 1)) ∧ Hid (bs = true → n3 = len1 ∧ Ints .u8 wc A3 n3 ys) ∧ Hid (bs = false → n3 = 0) ∧ Below wb.heap.size wb wc := by
    rcases hB with ⟨hall, A3, n3, c3, rfl, hA3, _, _, hb3⟩ | ⟨hall, rfl, hb3⟩
    · exact ⟨A3, n3, c3, true, rfl, hall.symm, Lib.hid (fun _ => ⟨hA3.len.symm.trans hc1'.out.len, hA3⟩), Lib.hid (fun h => nomatch h), hb3⟩
    · exact ⟨none, 0, 0, false, rfl, hall.symm, Lib.hid (fun h => nomatch h), Lib.hid (fun _ => rfl), hb3⟩
  have HAc := Lib.hid (HAb.out.below hb3); clear HAb
  have HA2c := Lib.hid (HA2.out.below hb3); clear HA2
  have hd1 := Lib.hid (hc1.out.below hb3); clear hc1
  have hd1' := Lib.hid (hc1'.out.below hb3); clear hc1'
  have hb13 := Lib.hid (below_to hb12.out hb3); clear hb12 hb3
  have HR := fun q => Lib.hid (rFits_any 1 a1 len1 cap1 ys (wc.drewN q) (hd1'.out.drewN q) (by omega))
  rw [← HBS.out] at HR
  have HR2 := Lib.hid HR; clear HR
  go_wp2_with fail
  go_loopw [10] (fun i wr => ∃ k q : Nat, wr = wc.drewN q ∧ k ≤ n2 ∧ i = .int .i64 k) (fun i _ => n2 - (intOf i).toNat)
  case atStart => exact ⟨0, 0, rfl, Nat.zero_le _, rfl⟩
  case round =>
  obtain ⟨k, q, rfl, hk, rfl⟩ := hrel
  by_cases hlt : k < n2
  · obtain ⟨b, off, x, rfl, hx1, hcx⟩ := HAc.out.at_ hlt
    obtain ⟨b', off', y, rfl, hy1, hcy⟩ := hd1.out.at_ hlt
    have hxy : x = y := by rw [hx1] at hy1; simpa using hy1
    subst hxy
    obtain ⟨hx0, hx255⟩ := hx.out x (List.mem_of_getElem? hx1)
    clear hx1 hy1
    go_wp2_with fail
    go_quiet (fail)
    go_wp2_with fail
    go_roundw
    case rel => exact ⟨k + 1, _, rfl, by omega, by go_num⟩
    case measure => simp [intOf]; omega
  have hd : decide (k < n2) = false := by simpa using hlt
  go_wp2_with fail
  refine (HR2.out _).out.mono ?_
  rintro e wd ⟨rfl, rfl⟩
  have hcv := run_conv_str (P := Try.prog) (wc.drewN q) 25 5 Try.underlying25 Try.underlying5 A2 n2 c2 xs HA2c.out 9 Try.underlying9
  have hcv2 := run_conv_str (P := Try.prog) (wc.drewN q) 25 5 Try.underlying25 Try.underlying5 a0 n2 cap0 xs hd1.out 9 Try.underlying9
  generalize strOfNums xs = S at hcv hcv2
  cases bs
  · have e3 := HF.out rfl
    subst e3
    clear HT HF HBS HR2
    go_wp2_with fail
    go_loopw [11] (fun i wr => wr = wc.drewN q ∧ i = .int .i64 0) (fun i _ => 0)
    case atStart => exact ⟨rfl, rfl⟩
    case round =>
    obtain ⟨rfl, rfl⟩ := hrel
    go_wp2_with (go_at_call 18; refine (awake02_any _).out.mono ?_; rintro e w' ⟨rfl, hb⟩)
    go_ret
    exact ⟨rfl, below_to (below_drewN hb13.out q) hb⟩
  · obtain ⟨e3, hI⟩ := HT.out rfl
    subst e3
    have HI := Lib.hid hI
    have HY : Hid (∀ x ∈ ys, 0 ≤ x ∧ x ≤ 255) := fun x hx => inB1 (List.all_eq_true.1 HBS.out.symm x hx)
    clear hI HT HF HBS HR2
    go_wp2_with fail
    go_loopw [11] (fun i wr => ∃ k q : Nat, wr = wc.drewN q ∧ k ≤ n3 ∧ i = .int .i64 k) (fun i _ => n3 - (intOf i).toNat)
    case atStart => exact ⟨0, q, rfl, Nat.zero_le _, rfl⟩
    case round =>
    clear hcv hcv2 hlt hd hk
    obtain ⟨k2, q2, rfl, hk2, rfl⟩ := hrel
    by_cases hlt : k2 < n3
    · obtain ⟨b, off, x, rfl, hx1, hcx⟩ := HI.out.at_ hlt
      obtain ⟨b', off', y, rfl, hy1, hcy⟩ := hd1'.out.at_ hlt
      have hxy : x = y := by rw [hx1] at hy1; simpa using hy1
      subst hxy
      obtain ⟨hx0, hx255⟩ := HY.out x (List.mem_of_getElem? hx1)
      clear hx1 hy1
      go_wp2_with fail
      go_quiet (fail)
      go_wp2_with fail
      go_roundw
      case rel => exact ⟨k2 + 1, _, rfl, by omega, by go_num⟩
      case measure => simp [intOf]; omega
    have hd : decide (k2 < n3) = false := by simpa using hlt
    go_wp2_with (go_at_call 18; refine (awake02_any _).out.mono ?_; rintro e w' ⟨rfl, hb⟩)
    go_ret
    exact ⟨rfl, below_to (below_drewN hb13.out q2) hb⟩
end Go.Proofs.Ytbllbifkckipdaa
