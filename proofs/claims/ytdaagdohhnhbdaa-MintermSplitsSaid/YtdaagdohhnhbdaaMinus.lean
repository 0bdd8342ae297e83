/- Contracts of span.Minus and span.Count. Condition: lists of fewer than 2^37 spans, whose numbers are ints. -/
import Derived.Test.YtdaagdohhnhbdaaMeet
namespace Go.Proofs.Ytdaagdohhnhbdaa
open Go.RowKit
set_option linter.unusedVariables false

theorem PlainF.mem {a : Int} {l : List Sp} (h : PlainF a l) {p : Sp} (hp : p ∈ l) : a + 1 < p.1 ∧ p.1 ≤ p.2 ∧ p.2 ≤ 1073741824 := by
  induction l generalizing a with
  | nil => cases hp
  | cons q l ih =>
    obtain ⟨h1, h2, h3, h4⟩ := h
    rcases List.mem_cons.1 hp with rfl | hp
    · exact ⟨h1, h2, h3⟩
    · have := ih h4 hp; omega
theorem of_ownList {w w' : World} {base : Nat} {r : List Sp} {e : Ending} (h : OwnList w base r e w') : ∃ A c, e = .returned (.slice A r.length c) ∧ r.length ≤ c ∧ c ≤ maxLen ∧ Spans w' A r.length r ∧ Below base w w' := by
  obtain ⟨v, rfl, ho, hb⟩ := h
  rcases id ho with ⟨h1, ⟨rfl, h0⟩ | ⟨g, cap, cur, rfl, _, _, hn, hc, _⟩⟩
  · have e0 : r = [] := List.length_eq_zero_iff.1 h0
    subst e0
    exact ⟨none, 0, rfl, by simp, by simp, Sl.of_own ho, hb⟩
  · exact ⟨_, cap, rfl, hn, hc, Sl.of_own ho, hb⟩

set_option maxRecDepth 100000 in
set_option maxHeartbeats 16000000 in
theorem Minus_any (A B : Option Addr) (n c m d : Nat) (a b : List Sp) (w : World) (h : Spans w A n a) (h' : Spans w B m b) (hw : SpW a) (hw' : SpW b) (hn : n < 137438953472) (hm : m < 137438953472) :
    Calls Try.prog 66 #[.slice A n c, .slice B m d] w fun e w' => ∃ r, OwnList w w.heap.size r e w' ∧ Rep r (fun x => Mem a x ∧ ¬ Mem b x) ∧ r.length ≤ n + m + 1 := by
  obtain ⟨i0, hi, hz0, hz1, hz2⟩ := info_parts info59
  have HN := Lib.hid (Norm_any B m d b w h' hw' (by omega))
  have HA := Lib.hid h
  clear h h'
  go_enter Try.func66, Try.ntmps66
  go_wp2_with fail
  refine HN.out.mono ?_
  rintro e w1 ⟨r, ho, hr, hrl⟩
  obtain ⟨g1, c1, rfl, hg1, hc1, hm1, hrow1, hb1⟩ := ho.shape
  have HRow1 := Lib.hid hrow1
  have HB1 := Lib.hid hb1
  have HR := Lib.hid hr
  clear ho hrow1 hb1 hr HN
  go_wp2_with fail
  go_loopw [5, 6, 12] (fun v f i wr => ∃ (k : Nat) (f' : Int) (o : List Sp), k ≤ r.length ∧ i = .int .i64 k ∧ f = .int .i64 f' ∧ wr.ownsRow w1.heap.size 34 2 v o.length (spanCells o) ∧ Below w1.heap.size w1 wr ∧ Hid (NgInv r k f' o)) (fun _ _ i _ => r.length - (intOf i).toNat)
  case atStart => exact ⟨0, -1073741824, [], Nat.zero_le _, rfl, rfl, World.ownsRow_nil _ _ _ _, Below.refl _ _, NgInv.start HR.out.1⟩
  case round =>
  obtain ⟨k, f, o, hk, rfl, rfl, hown, hbel, HI⟩ := hrel
  have HO := Lib.hid hown
  have HBE := Lib.hid hbel
  clear hown hbel
  obtain ⟨av, cv, hv⟩ := own_shape HO.out
  subst hv
  have hlk := HI.out.len
  have hfb := HI.out.bound
  by_cases hlt : k < r.length
  · obtain ⟨x, hx⟩ : ∃ x, r[k]? = some x := ⟨_, List.getElem?_eq_getElem hlt⟩
    obtain ⟨x1, x2⟩ := x
    have hxb := HI.out.head hx
    have hx1 : -1073741824 ≤ x1 ∧ x1 ≤ x2 ∧ x2 ≤ 1073741824 := ⟨by have := hxb.1; simp only at this; omega, hxb.2.1, hxb.2.2.1⟩
    have hcx := spanCells_at _ _ _ hx
    have hlt1 : g1 < w1.heap.size := (HRow1.out.lt g1 rfl).2
    have hd1 : wr.cell? ⟨g1, k * 2, none⟩ = some (.int .i64 x1) := by rw [HBE.out.cell hlt1, HRow1.out.cellAt _ (by omega)]; exact hcx.1
    have hd2 : wr.cell? ⟨g1, k * 2 + 1, none⟩ = some (.int .i64 x2) := by rw [HBE.out.cell hlt1, HRow1.out.cellAt _ (by omega)]; exact hcx.2
    have HIN := Lib.hid (HI.out.step hx)
    clear hx hcx hxb
    go_wp2_with (
        at_builtin
        go_must (refine wpList_push rfl _ _ 24 rfl w1.heap.size 34 i0 _ 2 16 Try.underlying24 hi hz0 hz1 hz2 rfl (by decide) (HO.out.alloc (.cells #[.int .i64 x1, .int .i64 x2] 34)) rfl [.int .i64 f, .int .i64 (x1 - 1)] _ (by first | rfl | (simp; rfl) | simp) rfl (one2 rfl rfl) (by omega) (by omega) (by have := HBE.out.size; simp; omega) ?_)
        intro v' w2 hown2 hg2 _
        have HO2 := Lib.hid hown2
        have HB2 := Lib.hid (below_pushed (HBE.out.alloc HBE.out.size _) (HO.out.alloc _) (Nat.le_refl _) (by have := HBE.out.size; simp; omega) hg2)
        have hbx := World.cell?_of_block (w := wr.alloc (.cells #[.int .i64 x1, .int .i64 x2] 34)) (w' := w2) (a := ⟨wr.heap.size, 1, none⟩)
          ((hg2.block wr.heap.size (by simp; omega) (by
            intro e
            have := (HO.out.lt wr.heap.size (by simpa [Value.ownBlock] using e.symm)).2
            omega)).trans (by first | exact heap_alloc_old _ _ (by simp) | exact Go.heap_alloc_old _ _ _ (by simp)))
        have hd3 : w2.cell? ⟨wr.heap.size, 1, none⟩ = some (.int .i64 x2) := by
          have hnew := heap_alloc_new wr (.cells #[.int .i64 x1, .int .i64 x2] 34)
          rw [hbx]
          simp only [World.cell?, hnew]
          rfl
        clear hown2 hg2 hbx)
    refine ⟨⟨k + 1, x2 + 1, o ++ [(f, x1 - 1)], by omega, by go_num, rfl, by rw [spanCells_append, List.length_append]; exact HO2.out, HB2.out, HIN⟩, by simp [intOf]; omega⟩
  · have hd : decide (k < r.length) = false := by simpa using hlt
    obtain rfl : k = r.length := by omega
    have HDN := Lib.hid (HI.out.done HR.out)
    go_wp2_with (at_builtin; go_must (refine wpList_push (w0 := wr) rfl _ _ 24 rfl w1.heap.size 34 i0 _ 2 16 Try.underlying24 hi hz0 hz1 hz2 rfl (by decide) HO.out rfl [.int .i64 f, .int .i64 1073741824] _ (by first | rfl | (simp; rfl) | simp) rfl (one2 rfl rfl) (by omega) (by omega) (by have := HBE.out.size; simp; omega) ?_); intro v' w2 hown2 hg2 _)
    have hbw := below_pushed HBE.out HO.out (Nat.le_refl _) HBE.out.size hg2
    obtain ⟨av2, cv2, hv2⟩ := own_shape hown2
    subst hv2
    have hsp : Spans w2 av2 (o.length + 1) (o ++ [(f, 1073741824)]) := by
      have := Sl.of_own hown2
      unfold Spans
      rw [spanCells_append]
      exact this
    have HM := Lib.hid (Meet_any A av2 n c (o.length + 1) cv2 a (o ++ [(f, 1073741824)]) w2 (HA.out.below (below_to HB1.out hbw)) hsp hw HDN.out.2 (by omega) (by omega))
    have HBW := Lib.hid hbw
    clear hown2 hg2 hsp hbw
    go_wp2_with (go_at_call 29; refine HM.out.mono ?_; rintro e w3 ⟨r3, ⟨v3, rfl, ho3, hb3⟩, hr3, hl3⟩; have HO3 := Lib.hid ho3; have HB3 := Lib.hid hb3; have HR3 := Lib.hid hr3; clear ho3 hb3 hr3)
    go_ret
    refine ⟨r3, ⟨_, rfl, own_base HO3.out (by have := HB1.out.size; have := HBW.out.size; omega), below_to HB1.out (below_to HBW.out HB3.out)⟩, ?_, by omega⟩
    refine ⟨HR3.out.1, fun z => ?_⟩
    rw [HR3.out.2]
    show (Mem a z ∧ Mem (o ++ [(f, 1073741824)]) z) ↔ (Mem a z ∧ ¬ Mem b z)
    rw [HDN.out.1]
    exact ⟨fun g => ⟨g.1, g.2.2.2⟩, fun g => ⟨g.1, g.1.1, g.1.2.1, g.2⟩⟩

set_option maxRecDepth 100000 in
set_option maxHeartbeats 16000000 in
theorem Count_any (A : Option Addr) (n c : Nat) (l r : List Sp) (w : World) (h : Spans w A n l) (hw : SpW l) (hn : n < 137438953472) (hr : Rep r (Mem l)) :
    Gives Try.prog 75 #[.slice A n c] w (.int .i64 (cnt r)) := by
  have HN := Lib.hid (Norm_any A n c l w h hw (by omega))
  have HR := Lib.hid hr
  clear h hr
  unfold Gives
  go_enter Try.func75, Try.ntmps75
  go_wp2_with fail
  refine HN.out.mono ?_
  rintro e w1 ⟨r', ho, hr', hrl⟩
  obtain rfl : r' = r := Rep.unique hr' HR.out (fun _ => Iff.rfl)
  obtain ⟨g1, c1, rfl, hg1, hc1, hm1, hrow1, hb1⟩ := ho.shape
  have HRow1 := Lib.hid hrow1
  have HB1 := Lib.hid hb1
  clear ho hrow1 hb1 hr' HN
  go_wp2_with fail
  go_loopw [3, 9] (fun s i wr => ∃ k : Nat, k ≤ r'.length ∧ i = .int .i64 k ∧ s = .int .i64 (cnt (r'.take k)) ∧ Below w1.heap.size w1 wr) (fun _ i _ => r'.length - (intOf i).toNat)
  case atStart => exact ⟨0, Nat.zero_le _, rfl, rfl, Below.refl _ _⟩
  case round =>
  obtain ⟨k, hk, rfl, rfl, hbel⟩ := hrel
  have HBE := Lib.hid hbel
  clear hbel
  by_cases hlt : k < r'.length
  · obtain ⟨x, hx⟩ : ∃ x, r'[k]? = some x := ⟨_, List.getElem?_eq_getElem hlt⟩
    have hxb := PlainF.mem HR.out.1 (List.mem_of_getElem? hx)
    have hcx := spanCells_at _ _ _ hx
    have e : cnt (r'.take (k + 1)) = cnt (r'.take k) + (x.2 - x.1 + 1) := by rw [take_snoc? hx, cnt_append, cnt_cons, cnt_nil]; omega
    have hct1 := Plain.cnt_take HR.out.1 k
    have hct2 := Plain.cnt_take HR.out.1 (k + 1)
    have E := Lib.hid e
    obtain ⟨x1, x2⟩ := x
    simp only at hxb hct2 e
    rw [e] at hct2
    clear e hx
    have hlt1 : g1 < w1.heap.size := (HRow1.out.lt g1 rfl).2
    have hd1 : wr.cell? ⟨g1, k * 2, none⟩ = some (.int .i64 x1) := by rw [HBE.out.cell hlt1, HRow1.out.cellAt _ (by omega)]; exact hcx.1
    have hd2 : wr.cell? ⟨g1, k * 2 + 1, none⟩ = some (.int .i64 x2) := by rw [HBE.out.cell hlt1, HRow1.out.cellAt _ (by omega)]; exact hcx.2
    clear hcx
    go_wp2_with fail
    refine ⟨⟨k + 1, by omega, by go_num, by rw [E.out], HBE.out.alloc HBE.out.size _⟩, by simp [intOf]; omega⟩
  · have hd : decide (k < r'.length) = false := by simpa using hlt
    obtain rfl : k = r'.length := by omega
    go_wp2_with fail
    go_ret
    exact ⟨ret_int (by rw [List.take_length]), below_to HB1.out HBE.out⟩
end Go.Proofs.Ytdaagdohhnhbdaa
