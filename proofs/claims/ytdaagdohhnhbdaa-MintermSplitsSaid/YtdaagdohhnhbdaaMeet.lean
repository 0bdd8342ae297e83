/- Contract of span.Meet: the plain list of what is in both of two sets, in a row of the call's own. Condition: lists of fewer than 2^38 spans, whose numbers are ints. -/
import Derived.Test.YtdaagdohhnhbdaaNorm
import Derived.Test.YtdaagdohhnhbdaaMeetLaw
namespace Go.Proofs.Ytdaagdohhnhbdaa
open Go.RowKit
set_option linter.unusedVariables false

/-- a call that returns a list, in a row of its own, or nil -/
def OwnList (w : World) (base : Nat) (r : List Sp) (e : Ending) (w' : World) : Prop := ∃ v, e = .returned v ∧ w'.ownsRow base 34 2 v r.length (spanCells r) ∧ Below base w w'
theorem OwnRep.shape {w w' : World} {base : Nat} {r : List Sp} {e : Ending} (h : OwnRep w base r e w') : ∃ g cap, e = .returned (.slice (some ⟨g, 0, none⟩) r.length cap) ∧ base ≤ g ∧ r.length ≤ cap ∧ cap ≤ maxLen ∧ w'.ownsRow base 34 2 (.slice (some ⟨g, 0, none⟩) r.length cap) r.length (spanCells r) ∧ Below base w w' := by
  obtain ⟨v, rfl, hv, ho, hb⟩ := h
  rcases id ho.2 with ⟨e0, _⟩ | ⟨g, cap, cur, rfl, h1, h2, h3, h4, _⟩
  · exact absurd e0 hv
  · exact ⟨g, cap, rfl, h1, h3, h4, ho, hb⟩

theorem own_base {w : World} {base base' : Nat} {e : TypeId} {size : Nat} {v : Value} {n : Nat} {xs : List Value} (h : w.ownsRow base e size v n xs) (hb : base' ≤ base) : w.ownsRow base' e size v n xs := by
  refine ⟨h.1, ?_⟩
  rcases h.2 with h0 | ⟨g, cap, cur, rfl, h1, h2⟩
  · exact .inl h0
  · exact .inr ⟨g, cap, cur, rfl, by omega, h2⟩

set_option maxRecDepth 100000 in
set_option maxHeartbeats 16000000 in
theorem Meet_any (A B : Option Addr) (n c m d : Nat) (a b : List Sp) (w : World) (h : Spans w A n a) (h' : Spans w B m b) (hw : SpW a) (hw' : SpW b) (hn : n < 274877906944) (hm : m < 274877906944) :
    Calls Try.prog 29 #[.slice A n c, .slice B m d] w fun e w' => ∃ r, OwnList w w.heap.size r e w' ∧ Rep r (fun x => Mem a x ∧ Mem b x) ∧ r.length ≤ n + m := by
  obtain ⟨i0, hi, hz0, hz1, hz2⟩ := info_parts info59
  have HN := Lib.hid (Norm_any A n c a w h hw (by omega))
  have HB := Lib.hid h'
  go_enter Try.func29, Try.ntmps29
  go_wp2_with fail
  refine HN.out.mono ?_
  rintro e w1 ⟨r, ho, hr, hrl⟩
  obtain ⟨g1, c1, rfl, hg1, hc1, hm1, hrow1, hb1⟩ := ho.shape
  have HN2 := Lib.hid (Norm_any B m d b w1 (HB.out.below hb1) hw' (by omega))
  have HRow1 := Lib.hid hrow1
  have HB1 := Lib.hid hb1
  have HR := Lib.hid hr
  clear ho hrow1 hb1 hr HN h h'
  go_wp2_with fail
  refine HN2.out.mono ?_
  rintro e w2 ⟨s, ho, hs, hsl⟩
  obtain ⟨g2, c2, rfl, hg2, hc2, hm2, hrow2, hb2⟩ := ho.shape
  have HRow2 := Lib.hid hrow2
  have HB2 := Lib.hid hb2
  have HS := Lib.hid hs
  clear ho hrow2 hb2 hs HN2
  go_wp2_with fail
  go_loopw [0, 1, 5] (fun x y v wr => ∃ (i j p q : Nat) (o : List Sp), i ≤ r.length ∧ j ≤ s.length ∧ Hid ((i < r.length → p = i * 2) ∧ (j < s.length → q = j * 2)) ∧ x = .slice (some ⟨g1, p, none⟩) (r.length - i) (c1 - i) ∧ y = .slice (some ⟨g2, q, none⟩) (s.length - j) (c2 - j) ∧ wr.ownsRow w2.heap.size 34 2 v o.length (spanCells o) ∧ Below w2.heap.size w2 wr ∧ Hid (MtInv r s (r.drop i) (s.drop j) o) ∧ o.length ≤ i + j) (fun x y _ _ => match x, y with | .slice _ p _, .slice _ q _ => p + q | _, _ => 0)
  case atStart =>
    refine ⟨0, 0, 0, 0, [], Nat.zero_le _, Nat.zero_le _, Lib.hid (by simp), by simp, by simp, World.ownsRow_nil _ _ _ _, Below.refl _ _, Lib.hid ?_, by simp⟩
    simpa using MtInv.start HR.out.1 HS.out.1
  case round =>
  obtain ⟨i, j, p, q, o, hi1, hj1, HPQ, rfl, rfl, hown, hbel, HI, hol⟩ := hrel
  have HO := Lib.hid hown
  have HBE := Lib.hid hbel
  clear hown hbel
  obtain ⟨av, cv, hv⟩ := own_shape HO.out
  subst hv
  by_cases hir : i < r.length
  · by_cases hjs : j < s.length
    · obtain rfl : p = i * 2 := HPQ.out.1 hir
      obtain rfl : q = j * 2 := HPQ.out.2 hjs
      obtain ⟨x, hx⟩ : ∃ x, r[i]? = some x := ⟨_, List.getElem?_eq_getElem hir⟩
      obtain ⟨y, hy⟩ : ∃ y, s[j]? = some y := ⟨_, List.getElem?_eq_getElem hjs⟩
      have hcx := spanCells_at _ _ _ hx
      have hcy := spanCells_at _ _ _ hy
      obtain ⟨x1, x2⟩ := x
      obtain ⟨y1, y2⟩ := y
      have hlt1 : g1 < w2.heap.size := Nat.lt_of_lt_of_le (HRow1.out.lt g1 rfl).2 HB2.out.size
      have hlt2 : g2 < w2.heap.size := (HRow2.out.lt g2 rfl).2
      have HCE : Hid (∀ W, Below w2.heap.size w2 W → W.cell? ⟨g1, i * 2, none⟩ = some (.int .i64 x1) ∧ W.cell? ⟨g1, i * 2 + 1, none⟩ = some (.int .i64 x2) ∧ W.cell? ⟨g2, j * 2, none⟩ = some (.int .i64 y1) ∧ W.cell? ⟨g2, j * 2 + 1, none⟩ = some (.int .i64 y2)) := by
        intro W hW
        refine ⟨?_, ?_, ?_, ?_⟩
        · rw [hW.cell hlt1, HB2.out.cell (HRow1.out.lt g1 rfl).2, HRow1.out.cellAt _ (by omega)]; exact hcx.1
        · rw [hW.cell hlt1, HB2.out.cell (HRow1.out.lt g1 rfl).2, HRow1.out.cellAt _ (by omega)]; exact hcx.2
        · rw [hW.cell hlt2, HRow2.out.cellAt _ (by omega)]; exact hcy.1
        · rw [hW.cell hlt2, HRow2.out.cellAt _ (by omega)]; exact hcy.2
      obtain ⟨hd1, hd2, hd3, hd4⟩ := HCE.out wr HBE.out
      have HIL := Lib.hid (fun (g : x2 < y2) => MtInv.left (r := r) (s := s) (p := r.drop (i + 1)) (q := s.drop (j + 1)) (o := o) (x := (x1, x2)) (y := (y1, y2)) (by rw [← drop_cons? hx, ← drop_cons? hy]; exact HI.out) g)
      have HIR := Lib.hid (fun (g : ¬ x2 < y2) => MtInv.right (r := r) (s := s) (p := r.drop (i + 1)) (q := s.drop (j + 1)) (o := o) (x := (x1, x2)) (y := (y1, y2)) (by rw [← drop_cons? hx, ← drop_cons? hy]; exact HI.out) g)
      have HX := Lib.hid (drop_cons? hx)
      have HY := Lib.hid (drop_cons? hy)
      have hgw1 := Nat.lt_of_lt_of_le hlt1 HBE.out.size
      have hgw2 := Nat.lt_of_lt_of_le hlt2 HBE.out.size
      obtain ⟨lo, hlo⟩ : ∃ z, max x1 y1 = z := ⟨_, rfl⟩
      obtain ⟨hi', hhi⟩ : ∃ z, min x2 y2 = z := ⟨_, rfl⟩
      have hboth : Hid (both (x1, x2) (y1, y2) = if lo ≤ hi' then [(lo, hi')] else []) := by unfold Hid both; rw [hlo, hhi]
      have hk1 : 0 < r.length - i := by omega
      have hk2 : 0 < s.length - j := by omega
      clear hx hy hcx hcy
      have HBA := Lib.hid ((below_drewN HBE.out 1).alloc HBE.out.size (.cells #[.int .i64 lo, .int .i64 hi'] 34))
      have hol2 : o.length < 1099511627776 := by omega
      go_wp2_with fail
      go_region
      by_cases hlh : lo ≤ hi'
      · have e2 : Hid (both (x1, x2) (y1, y2) = [(lo, hi')]) := by unfold Hid; rw [hboth.out, if_pos hlh]
        by_cases hxy : x2 < y2
        · go_wp2_with (first | go_quiet (fail) | (at_builtin; go_must (refine wpList_push rfl _ _ 24 rfl w2.heap.size 34 i0 _ 2 16 Try.underlying24 hi hz0 hz1 hz2 rfl (by decide) ((ownsRow_drewN HO.out 1).alloc _) rfl [.int .i64 lo, .int .i64 hi'] _ (by first | rfl | (simp; rfl) | simp) rfl (one2 rfl rfl) (by omega) (by omega) (by have := HBE.out.size; simp; omega) ?_); intro v' w3 hown3 hg3 _))
          have HO3 := Lib.hid hown3
          have HB3 := Lib.hid (below_pushed HBA.out ((ownsRow_drewN HO.out 1).alloc _) (Nat.le_refl _) (by have := HBE.out.size; simp; omega) hg3)
          clear hown3 hg3
          obtain ⟨_, hf2, _, hf4⟩ := HCE.out w3 HB3.out
          go_wp2_with (go_quiet (fail))
          refine ⟨⟨i + 1, j, if c1 - i = 1 then i * 2 else i * 2 + 2, j * 2, o ++ [(lo, hi')], by omega, by omega, Lib.hid ⟨fun g => by rw [if_neg (by omega)]; omega, fun _ => rfl⟩, by split <;> simp <;> omega, rfl, by rw [spanCells_append, List.length_append]; exact HO3.out, below_drewN HB3.out _, Lib.hid ?_, by simp; omega⟩, by simp only []; omega⟩
          have := HIL.out hxy
          rw [e2.out] at this
          rw [HY.out]
          exact this
        · go_wp2_with (first | go_quiet (fail) | (at_builtin; go_must (refine wpList_push rfl _ _ 24 rfl w2.heap.size 34 i0 _ 2 16 Try.underlying24 hi hz0 hz1 hz2 rfl (by decide) ((ownsRow_drewN HO.out 1).alloc _) rfl [.int .i64 lo, .int .i64 hi'] _ (by first | rfl | (simp; rfl) | simp) rfl (one2 rfl rfl) (by omega) (by omega) (by have := HBE.out.size; simp; omega) ?_); intro v' w3 hown3 hg3 _))
          have HO3 := Lib.hid hown3
          have HB3 := Lib.hid (below_pushed HBA.out ((ownsRow_drewN HO.out 1).alloc _) (Nat.le_refl _) (by have := HBE.out.size; simp; omega) hg3)
          clear hown3 hg3
          obtain ⟨_, hf2, _, hf4⟩ := HCE.out w3 HB3.out
          go_wp2_with (go_quiet (fail))
          refine ⟨⟨i, j + 1, i * 2, if c2 - j = 1 then j * 2 else j * 2 + 2, o ++ [(lo, hi')], by omega, by omega, Lib.hid ⟨fun _ => rfl, fun g => by rw [if_neg (by omega)]; omega⟩, rfl, by split <;> simp <;> omega, by rw [spanCells_append, List.length_append]; exact HO3.out, below_drewN HB3.out _, Lib.hid ?_, by simp; omega⟩, by simp only []; omega⟩
          have := HIR.out (by omega)
          rw [e2.out] at this
          rw [HX.out]
          exact this
      · have e2 : Hid (both (x1, x2) (y1, y2) = []) := by unfold Hid; rw [hboth.out, if_neg hlh]
        by_cases hxy : x2 < y2
        · obtain ⟨_, hf2, _, hf4⟩ := HCE.out _ HBA.out
          go_wp2_with (go_quiet (fail))
          refine ⟨⟨i + 1, j, if c1 - i = 1 then i * 2 else i * 2 + 2, j * 2, o, by omega, by omega, Lib.hid ⟨fun g => by rw [if_neg (by omega)]; omega, fun _ => rfl⟩, by split <;> simp <;> omega, rfl, ((ownsRow_drewN HO.out 1).alloc _), below_drewN (HBE.out.alloc HBE.out.size _) _, Lib.hid ?_, by omega⟩, by simp only []; omega⟩
          have := HIL.out hxy
          rw [e2.out, List.append_nil] at this
          rw [HY.out]
          exact this
        · obtain ⟨_, hf2, _, hf4⟩ := HCE.out _ HBA.out
          go_wp2_with (go_quiet (fail))
          refine ⟨⟨i, j + 1, i * 2, if c2 - j = 1 then j * 2 else j * 2 + 2, o, by omega, by omega, Lib.hid ⟨fun _ => rfl, fun g => by rw [if_neg (by omega)]; omega⟩, rfl, by split <;> simp <;> omega, ((ownsRow_drewN HO.out 1).alloc _), below_drewN (HBE.out.alloc HBE.out.size _) _, Lib.hid ?_, by omega⟩, by simp only []; omega⟩
          have := HIR.out (by omega)
          rw [e2.out, List.append_nil] at this
          rw [HX.out]
          exact this
    · have hk1 : 0 < r.length - i := by omega
      have hk2 : decide (0 < s.length - j) = false := by simp; omega
      go_wp2_with fail
      go_ret
      exact ⟨o, ⟨_, rfl, own_base HO.out (by have := HB1.out.size; have := HB2.out.size; omega), below_to HB1.out (below_to HB2.out HBE.out)⟩, HI.out.rep (.inr (List.drop_eq_nil_of_le (by omega))) HR.out HS.out, by omega⟩
  · have hk1 : decide (0 < r.length - i) = false := by simp; omega
    go_wp2_with fail
    go_ret
    exact ⟨o, ⟨_, rfl, own_base HO.out (by have := HB1.out.size; have := HB2.out.size; omega), below_to HB1.out (below_to HB2.out HBE.out)⟩, HI.out.rep (.inl (List.drop_eq_nil_of_le (by omega))) HR.out HS.out, by omega⟩
end Go.Proofs.Ytdaagdohhnhbdaa
