/- umlautlaw02.WordLists: the walk. For every list of words the call returns true. Condition: none beyond the row's own. -/
import Derived.Test.YtbllbifkckipdaaWordSort
import Derived.Test.YtbllbifkckipdaaAwake02
namespace Go.Proofs.Ytbllbifkckipdaa
open Go.RowKit
set_option linter.unusedVariables false

abbrev WordIn := Item Int
/-- a word that came in -/
def WdI (A : Option Addr) (l : List Int) (w : World) : Prop := Ints .i32 w A l.length l ∧ l.length ≤ 9223372036854775807
theorem WdI.lasts : Lasts WdI := fun A l w w' h hb => ⟨h.1.below hb, h.2⟩
/-- words that came in -/
def WordsIn (w : World) (A : Option Addr) (n : Nat) (L : List WordIn) : Prop := Items WdI A n L w ∧ n ≤ 9223372036854775807

theorem awake02_st {w0 w : World} {F : World → Prop} (hK : Hid (St w0 w F)) : Calls Try.prog 18 #[] w (fun e w' => e = .returned (.bool true) ∧ Hid (St w0 w' F)) :=
  Calls.mono (awake02_any w) fun e w' ⟨he, hb⟩ => ⟨he, St.hstep hK hb⟩

set_option maxRecDepth 100000 in
set_option maxHeartbeats 8000000 in
theorem WordLists_walk (A : Option Addr) (n c : Nat) (L : List WordIn) (w : World) (h : WordsIn w A n L) :
    Calls Try.prog 10 #[.slice A n c] w fun e w' => e = .returned (.bool true) ∧ Below w.heap.size w w' := by
  have HL := Lib.hid h.1.len
  have HA := Lib.hid h.1
  have hn := h.2
  clear h
  have HK0 : Hid (St w w (fun _ => True)) := Lib.hid (St.start fun _ _ => trivial)
  by_cases hbig : 100 < n
  · go_enter Try.func10, Try.ntmps10
    go_wp2_with fail
    refine (awake02_st HK0).mono ?_
    rintro e w1 ⟨rfl, HK⟩
    go_wp2_with fail
    go_ret
    exact ⟨rfl, HK.out.2⟩
  go_enter Try.func10, Try.ntmps10
  go_wp2_with fail
  go_loopw [3, 4] (fun v i wr => ∃ (k : Nat) (A' : Option Addr) (c' : Nat) (M : List (Item Int)), k ≤ n ∧ i = .int .i64 k ∧ v = .slice A' M.length c' ∧ Hid (Items Wd A' M.length M wr) ∧ Hid (StW (bodies M)) ∧ Hid (∀ y, y ∈ bodies M ↔ y ∈ (bodies L).take k) ∧ M.length ≤ k ∧ Hid (Below w.heap.size w wr) ∧ Hid (∀ i ∈ L.take k, i.2.2.length ≤ 2000)) (fun _ i _ => n - (intOf i).toNat)
  case atStart => exact ⟨0, none, 0, [], Nat.zero_le _, rfl, rfl, Lib.hid (Items.nil_ _ _ _), Lib.hid List.Pairwise.nil, Lib.hid fun y => by simp [bodies], Nat.le_refl _, Lib.hid (Below.refl _ _), Lib.hid fun i hi => by simp at hi⟩
  case round =>
  obtain ⟨k, A', c', M, hk, rfl, rfl, HM, HST, HSA, hml, HB, HLE⟩ := hrel
  by_cases hlt : k < n
  · obtain ⟨b, off, xa, xc, x, rfl, hx, hcx, hwx⟩ := HA.out.at_ hlt
    have hdx := (HB.out.cell (lt_of_cell hcx)).trans hcx
    have hxb : (bodies L)[k]? = some x := by unfold bodies; rw [List.getElem?_map, hx]; rfl
    have HX := Lib.hid hx
    have HXB := Lib.hid hxb
    by_cases hxl : 2000 < x.length
    · have hxm := hwx.2
      have HK : Hid (St w wr (fun _ => True)) := Lib.hid ⟨fun _ _ => trivial, HB.out⟩
      clear hx hcx hwx hxb
      go_wp2_with fail
      refine (awake02_st HK).mono ?_
      rintro e w1 ⟨rfl, HK⟩
      go_wp2_with fail
      go_ret
      exact ⟨rfl, HK.out.2⟩
    · have HP := Lib.hid (rPut_any A' M.length c' M xa xc x wr HM.out ⟨(WdI.lasts _ _ _ _ hwx HB.out).1, by omega⟩ HST.out (by omega))
      have hxm := hwx.2
      have hxl2 : x.length ≤ 2000 := by omega
      clear hx hcx hwx hxb
      go_wp2_with fail
      refine HP.out.mono ?_
      rintro e w1 ⟨A1, c1, M1, rfl, hm1, hs1, hme, hle, hb1⟩
      have HM1 := Lib.hid hm1
      have HS1 := Lib.hid hs1
      have HME := Lib.hid hme
      have HB1 := Lib.hid (below_to HB.out hb1)
      clear hm1 hs1 hme hb1
      go_wp2_with fail
      go_roundw
      case rel =>
        refine ⟨k + 1, A1, c1, M1, by omega, by go_num, rfl, HM1, HS1, Lib.hid fun y => ?_, by omega, HB1, Lib.hid fun i hi => ?_⟩
        · rw [HME.out, HSA.out, take_snoc? HXB.out, List.mem_append, List.mem_singleton]
        · rw [take_snoc? HX.out] at hi
          rcases List.mem_append.1 hi with hi | hi
          · exact HLE.out i hi
          · simp at hi; subst hi; exact hxl2
      case measure => simp [intOf]; omega
  · obtain rfl : k = n := by omega
    have hd : decide (k < k) = false := by simp
    have hin : Items Wd A k L wr := by
      have h1 := HA.out.below WdI.lasts HB.out
      refine ⟨h1.sl, fun i hi => ⟨(h1.it i hi).1, ?_⟩⟩
      have := HLE.out i (by rw [List.take_of_length_le (by rw [HL.out]; exact Nat.le_refl _)]; exact hi)
      omega
    have HS := Lib.hid (WSort_any A k c L wr hin (by omega))
    clear hin
    go_wp2_with fail
    refine HS.out.mono ?_
    rintro e w1 ⟨A1, c1, M1, rfl, hm1, hs1, hme, hle, hb1⟩
    have hMM : bodies M1 = bodies M := StW.unique hs1 HST.out fun x => by
      rw [hme, HSA.out, List.take_of_length_le (by rw [bodies_length, HL.out]; exact Nat.le_refl _)]
    have HSM := Lib.hid ((SameLists_any A1 A' M1.length c1 M.length c' M1 M w1 hm1 (HM.out.below Wd.lasts hb1) (by omega) (by omega)).as (v' := .bool true) (by rw [hMM]; simp))
    have HB1 := Lib.hid (below_to HB.out hb1)
    clear hm1 hs1 hme hb1 hMM
    go_wp2_with fail
    refine HSM.out.out.mono ?_
    rintro e w2 ⟨rfl, q, rfl⟩
    have HK : Hid (St w (w1.drewN q) (fun _ => True)) := Lib.hid ⟨fun _ _ => trivial, below_drewN HB1.out q⟩
    go_wp2_with fail
    refine (awake02_st HK).mono ?_
    rintro e w3 ⟨rfl, HK⟩
    go_wp2_with fail
    go_ret
    exact ⟨rfl, HK.out.2⟩
end Go.Proofs.Ytbllbifkckipdaa
