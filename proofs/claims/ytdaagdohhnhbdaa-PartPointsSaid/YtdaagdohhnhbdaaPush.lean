/- 'out = append(out, span)' at a row of spans of the call's own, one or two spans at once, in a round too. Condition: fewer than 2^40 spans. -/
import Derived.Test.YtdaagdohhnhbdaaRound
namespace Go.Proofs.Ytdaagdohhnhbdaa
open Go.RowKit Go.Shelf
set_option linter.unusedVariables false

/-- the row that a slice owns, as a list -/
def SRow (w : World) (base : Nat) (A : Option Addr) (c : Nat) (l : List Sp) : Prop := w.ownsRow base 34 2 (.slice A l.length c) l.length (spanCells l)
theorem SRow.start (w : World) (base : Nat) : SRow w base none 0 [] := World.ownsRow_nil _ _ _ _
theorem SRow.spans {w : World} {base : Nat} {A : Option Addr} {c : Nat} {l : List Sp} (h : SRow w base A c l) : Spans w A l.length l := Sl.of_own h
theorem SRow.alloc {w : World} {base : Nat} {A : Option Addr} {c : Nat} {l : List Sp} (h : SRow w base A c l) (o : Obj) : SRow (w.alloc o) base A c l := World.ownsRow.alloc h o
theorem SRow.drewN {w : World} {base : Nat} {A : Option Addr} {c : Nat} {l : List Sp} (h : SRow w base A c l) (q : Nat) : SRow (w.drewN q) base A c l := h
theorem SRow.drew {w : World} {base : Nat} {A : Option Addr} {c : Nat} {l : List Sp} (h : SRow w base A c l) : SRow w.drew base A c l := h
theorem SRow.pushed {B : Nat} {W w0 w' : World} {o : Obj} {base : Nat} {A : Option Addr} {c : Nat} {l : List Sp} (hb : Below B W w0) (hown : SRow w0 base A c l) (hB : B ≤ base) (hB' : B ≤ w0.heap.size)
    (hg : (w0.alloc o).grownBy w' (Value.ownBlock (.slice A l.length c))) : Below B W w' := below_pushed hb hown hB hB' hg
theorem SRow.lit (w : World) (base : Nat) (p1 p2 : Int) (h : base ≤ w.heap.size) : SRow (w.alloc (.cells #[.int .i64 p1, .int .i64 p2] 34)) base (some ⟨w.heap.size, 0, none⟩) 1 [(p1, p2)] :=
  ⟨rfl, .inr ⟨w.heap.size, 1, _, rfl, h, heap_alloc_new w _, Nat.le_refl _, by unfold maxLen; omega, rfl, rfl⟩⟩
theorem SRow.lit' {w : World} {base B : Nat} {p1 p2 : Int} (hB : B = w.heap.size) (h : base ≤ w.heap.size) : SRow (w.alloc (.cells #[.int .i64 p1, .int .i64 p2] 34)) base (some ⟨B, 0, none⟩) 1 [(p1, p2)] := by
  subst hB; exact SRow.lit w base p1 p2 h
theorem fst_zero (p : Sp) (l : List Sp) : (spanCells (p :: l)) = .int .i64 p.1 :: .int .i64 p.2 :: spanCells l := rfl

section
variable {w0 : World} {ops : Array Oper} {rest : List Oper} {o : Oper} {a : Act} {Q : Exit → Act → World → Prop} {base : Nat} {A : Option Addr} {c : Nat} {l : List Sp}
theorem wpList_pushS (hgd : o.guard = none) (s x : Operand) (ho : o.op = .call { callee := .builtin .append, args := #[s, x], argTypes := #[24, 24] })
    (hown : SRow w0 base A c l) (hs : a.eval s = .slice A l.length c) {p1 p2 : Int} (hx : a.eval x = .slice (some ⟨w0.heap.size, 0, none⟩) 1 1) (hn : l.length < 1099511627776) (hbase : base ≤ w0.heap.size)
    (h : ∀ (l' : List Sp) A' c' w', Hid (l' = l ++ [(p1, p2)]) → Hid (SRow w' base A' c' l') → Hid ((w0.alloc (.cells #[.int .i64 p1, .int .i64 p2] 34)).grownBy w' (Value.ownBlock (.slice A l.length c))) →
      Hid (Value.ownBlock (.slice A' l'.length c') = Value.ownBlock (.slice A l.length c) ∨ Value.ownBlock (.slice A' l'.length c') = some (w0.heap.size + 1)) → wpList Try.prog ops Q rest (a.put o.dst (.slice A' l'.length c')) w') :
    wpList Try.prog ops Q (o :: rest) a (w0.alloc (.cells #[.int .i64 p1, .int .i64 p2] 34)) := by
  obtain ⟨i0, hi, hz0, hz1, hz2⟩ := info_parts info59
  have hs0 : (w0.alloc (.cells #[.int .i64 p1, .int .i64 p2] 34)).heap.size = w0.heap.size + 1 := by simp
  refine wpList_append_own_at _ hgd s x 24 ho base 34 i0 _ 2 16 Try.underlying24 hi hz0 hz1 hz2 rfl (by decide) _ l.length (spanCells l) hs (hown.alloc _) ⟨w0.heap.size, 0, none⟩ 1 1 [.int .i64 p1, .int .i64 p2] hx rfl ?_ (one2 rfl rfl)
    (by unfold maxLen; omega) (by omega) (by rw [hs0]; omega) ?_
  · exact World.news_of_block (cs := #[.int .i64 p1, .int .i64 p2]) (t := 34) (fr := (0, 0)) (heap_alloc_new w0 _)
  · intro v' w' hown' hg _ hat
    obtain ⟨A', c', rfl⟩ := own_shape hown'
    have e : (l ++ [(p1, p2)]).length = l.length + 1 := by simp
    rw [hs0] at hat
    rw [← e] at hown' hat ⊢
    exact h _ A' c' w' rfl (by unfold Hid SRow; rw [spanCells_append]; exact hown') hg hat
theorem wpList_pushS2 (hgd : o.guard = none) (s x : Operand) (ho : o.op = .call { callee := .builtin .append, args := #[s, x], argTypes := #[24, 24] })
    (hown : SRow w0 base A c l) (hs : a.eval s = .slice A l.length c) {p1 p2 q1 q2 : Int} (hx : a.eval x = .slice (some ⟨w0.heap.size, 0, none⟩) 2 2) (hn : l.length < 1099511627776) (hbase : base ≤ w0.heap.size)
    (h : ∀ (l' : List Sp) A' c' w', Hid (l' = l ++ [(p1, p2), (q1, q2)]) → Hid (SRow w' base A' c' l') → Hid ((w0.alloc (.cells #[.int .i64 p1, .int .i64 p2, .int .i64 q1, .int .i64 q2] 34)).grownBy w' (Value.ownBlock (.slice A l.length c))) →
      Hid (Value.ownBlock (.slice A' l'.length c') = Value.ownBlock (.slice A l.length c) ∨ Value.ownBlock (.slice A' l'.length c') = some (w0.heap.size + 1)) → wpList Try.prog ops Q rest (a.put o.dst (.slice A' l'.length c')) w') :
    wpList Try.prog ops Q (o :: rest) a (w0.alloc (.cells #[.int .i64 p1, .int .i64 p2, .int .i64 q1, .int .i64 q2] 34)) := by
  obtain ⟨i0, hi, hz0, hz1, hz2⟩ := info_parts info59
  have hs0 : (w0.alloc (.cells #[.int .i64 p1, .int .i64 p2, .int .i64 q1, .int .i64 q2] 34)).heap.size = w0.heap.size + 1 := by simp
  refine wpList_append_own_at _ hgd s x 24 ho base 34 i0 _ 2 16 Try.underlying24 hi hz0 hz1 hz2 rfl (by decide) _ l.length (spanCells l) hs (hown.alloc _) ⟨w0.heap.size, 0, none⟩ 2 2 [.int .i64 p1, .int .i64 p2, .int .i64 q1, .int .i64 q2] hx rfl ?_ (by intro u hu; simp at hu; rcases hu with rfl | rfl | rfl | rfl <;> rfl)
    (by unfold maxLen; omega) (by omega) (by rw [hs0]; omega) ?_
  · exact World.news_of_block (cs := #[.int .i64 p1, .int .i64 p2, .int .i64 q1, .int .i64 q2]) (t := 34) (fr := (0, 0)) (heap_alloc_new w0 _)
  · intro v' w' hown' hg _ hat
    obtain ⟨A', c', rfl⟩ := own_shape hown'
    have e : (l ++ [(p1, p2), (q1, q2)]).length = l.length + 2 := by simp
    rw [hs0] at hat
    rw [← e] at hown' hat ⊢
    exact h _ A' c' w' rfl (by unfold Hid SRow; rw [spanCells_append]; exact hown') hg hat
theorem wpListIn_pushS {F : Fence} {nF : Nat} (hgd : o.guard = none) (s x : Operand) (ho : o.op = .call { callee := .builtin .append, args := #[s, x], argTypes := #[24, 24] })
    (hown : SRow w0 base A c l) (hs : a.eval s = .slice A l.length c) {p1 p2 : Int} (hx : a.eval x = .slice (some ⟨w0.heap.size, 0, none⟩) 1 1) (hn : l.length < 1099511627776) (hbase : base ≤ w0.heap.size)
    (h : ∀ (l' : List Sp) A' c' w', Hid (l' = l ++ [(p1, p2)]) → Hid (SRow w' base A' c' l') → Hid ((w0.alloc (.cells #[.int .i64 p1, .int .i64 p2] 34)).grownBy w' (Value.ownBlock (.slice A l.length c))) →
      Hid (Value.ownBlock (.slice A' l'.length c') = Value.ownBlock (.slice A l.length c) ∨ Value.ownBlock (.slice A' l'.length c') = some (w0.heap.size + 1)) → wpListIn F nF Try.prog ops Q rest (a.put o.dst (.slice A' l'.length c')) w') :
    wpListIn F nF Try.prog ops Q (o :: rest) a (w0.alloc (.cells #[.int .i64 p1, .int .i64 p2] 34)) := by
  obtain ⟨i0, hi, hz0, hz1, hz2⟩ := info_parts info59
  have hs0 : (w0.alloc (.cells #[.int .i64 p1, .int .i64 p2] 34)).heap.size = w0.heap.size + 1 := by simp
  refine Go.wpListIn_append_own_at _ hgd s x 24 ho base 34 i0 _ 2 16 Try.underlying24 hi hz0 hz1 hz2 rfl (by decide) _ l.length (spanCells l) hs (hown.alloc _) ⟨w0.heap.size, 0, none⟩ 1 1 [.int .i64 p1, .int .i64 p2] hx rfl ?_ (one2 rfl rfl)
    (by unfold maxLen; omega) (by omega) (by rw [hs0]; omega) ?_
  · exact World.news_of_block (cs := #[.int .i64 p1, .int .i64 p2]) (t := 34) (fr := (0, 0)) (heap_alloc_new w0 _)
  · intro v' w' hown' hg _ hat
    obtain ⟨A', c', rfl⟩ := own_shape hown'
    have e : (l ++ [(p1, p2)]).length = l.length + 1 := by simp
    rw [hs0] at hat
    rw [← e] at hown' hat ⊢
    exact h _ A' c' w' rfl (by unfold Hid SRow; rw [spanCells_append]; exact hown') hg hat
/-- the append alone, as a step of a region -/
theorem wp_pushS (hgd : o.guard = none) (s x : Operand) (ho : o.op = .call { callee := .builtin .append, args := #[s, x], argTypes := #[24, 24] })
    (hown : SRow w0 base A c l) (hs : a.eval s = .slice A l.length c) {p1 p2 : Int} (hx : a.eval x = .slice (some ⟨w0.heap.size, 0, none⟩) 1 1) (hn : l.length < 1099511627776) (hbase : base ≤ w0.heap.size) {K : Act → World → Prop}
    (h : ∀ (l' : List Sp) A' c' w', Hid (l' = l ++ [(p1, p2)]) → Hid (SRow w' base A' c' l') → Hid ((w0.alloc (.cells #[.int .i64 p1, .int .i64 p2] 34)).grownBy w' (Value.ownBlock (.slice A l.length c))) →
      Hid (Value.ownBlock (.slice A' l'.length c') = Value.ownBlock (.slice A l.length c) ∨ Value.ownBlock (.slice A' l'.length c') = some (w0.heap.size + 1)) → K (a.put o.dst (.slice A' l'.length c')) w') :
    o.wp Try.prog a (w0.alloc (.cells #[.int .i64 p1, .int .i64 p2] 34)) K Q := by
  obtain ⟨i0, hi, hz0, hz1, hz2⟩ := info_parts info59
  have hs0 : (w0.alloc (.cells #[.int .i64 p1, .int .i64 p2] 34)).heap.size = w0.heap.size + 1 := by simp
  obtain ⟨v', w', hr, hown', hg, _, hat⟩ := run_append_own_at (P := Try.prog) (w0.alloc (.cells #[.int .i64 p1, .int .i64 p2] 34)) base 24 o.type 34 i0 _ 2 16 Try.underlying24 hi hz0 hz1 hz2 rfl (by decide) (.slice A l.length c) l.length (spanCells l) (hown.alloc _) ⟨w0.heap.size, 0, none⟩ 1 1 [.int .i64 p1, .int .i64 p2] rfl
    (World.news_of_block (cs := #[.int .i64 p1, .int .i64 p2]) (t := 34) (fr := (0, 0)) (heap_alloc_new w0 _)) (one2 rfl rfl) (by unfold maxLen; omega) (by omega) (by rw [hs0]; omega)
  unfold Oper.wp execOp
  simp only [ho, resolve, invoke, builtin, Sem.run_bind, Sem.run_pure, Result.andThen_ok, List.map_toArray, List.map_cons, List.map_nil, hs, hx, hr]
  obtain ⟨A', c', rfl⟩ := own_shape hown'
  have e : (l ++ [(p1, p2)]).length = l.length + 1 := by simp
  rw [hs0] at hat
  rw [← e] at hown' hat ⊢
  exact h _ A' c' w' rfl (by unfold Hid SRow; rw [spanCells_append]; exact hown') hg hat
end

/-- how a function leaves that holds a range over a function -/
theorem leaveM_nil {P : Program} {F : Fence} {n : Nat} {fn : Func} {tmps : Array Value} {R : Ending → World → Prop} {w : World} (v : Value) (h : (results fn tmps).run P w = .ok v w) (hR : R (.returned v) w) : LeavesInM F n P fn tmps R [] .returning w := ⟨v, h, hR⟩
theorem leaveM_mark {P : Program} {F : Fence} {n : Nat} {fn : Func} {tmps : Array Value} {R : Ending → World → Prop} {w : World} {D : Nat} (v : Value) (hD : w.heap[D]? = some (.deferred (some []))) (h : ∀ w', (results fn tmps).run P w' = .ok v w')
    (hR : R (.returned v) (w.putObj D (.deferred none))) : LeavesInM F n P fn tmps R [{ target := .collected D, args := #[] }] .returning w :=
  ⟨by simp, .inl ⟨_, _, rfl, run_takeDeferred hD, v, h _, hR⟩⟩
theorem St.mark {w0 w1 w : World} {F : World → Prop} {A : Option Addr} {r : List Sp} {D : Nat} (h : St w0 w1 F) (hb : Below w1.heap.size w1 w) (hL : Lst A r w) (hD : w1.heap.size ≤ D) (hK : w.heap[D]? = some (.deferred (some []))) :
    St w0 (w.putObj D (.deferred none)) (fun W => Lst A r W ∧ F W) := by
  have hg := grownBy_putObj' w D (.deferred none)
  have hb' : Below w1.heap.size w1 (w.putObj D (.deferred none)) := hb.grown hg hb.size (fun k e => by cases e; exact hD)
  refine h.add hb' (fun W hW => ?_)
  refine Lst.below ⟨⟨hL.sp.1, fun hn => ?_⟩, hL.wd, hL.len⟩ hW
  obtain ⟨b, off, e, hc⟩ := hL.sp.2 hn
  exact ⟨b, off, e, fun j u hu => cell_kept (hc j u hu) hg (fun r e => by cases e; exact ⟨_, hK, rfl⟩)⟩

/-- a row of spans that a box holds -/
def BoxRow (Bu base : Nat) (o : List Sp) (W : World) : Prop := ∃ A c, W.cell? ⟨Bu, 0, none⟩ = some (.slice A o.length c) ∧ W.frozen? ⟨Bu, 0, none⟩ = false ∧ SRow W base A c o
theorem BoxRow.own {β : Type} (B Bu base : Nat) (f : β → List Sp) : OwnFrom B (fun s W => BoxRow Bu base (f s) W) := by
  rintro s X Y row ⟨A, c, h1, h2, h3⟩ hg hr
  refine ⟨A, c, cell_kept h1 hg (fun r e => (hr r e).2), (frozen_kept h1 hg (fun r e => (hr r e).2)).trans h2, ?_⟩
  refine h3.kept hg ?_
  rcases hb : Value.ownBlock (.slice A (f s).length c) with _ | g
  · exact .inl rfl
  · right
    intro e
    obtain ⟨_, o, ho, hc⟩ := hr g e.symm
    rcases h3.2 with ⟨e', _⟩ | ⟨g', cap, cur, e', _, hgg, _⟩
    · rw [e'] at hb; simp [Value.ownBlock] at hb
    · rw [e'] at hb
      simp [Value.ownBlock] at hb
      subst hb
      rw [hgg] at ho
      cases ho
      cases hc
theorem BoxRow.new (w : World) (base : Nat) : BoxRow w.heap.size base [] (w.alloc (.cells #[.slice none 0 0] 24)) := by
  have hb := heap_alloc_new w (.cells #[.slice none 0 0] 24)
  refine ⟨none, 0, ?_, ?_, SRow.start _ _⟩
  · simp only [World.cell?, hb]; rfl
  · unfold World.frozen?; rw [hb]; simp
theorem BoxRow.push {lo hi Bu base : Nat} {W w0 W3 : World} {A A' : Option Addr} {c c' : Nat} {o l' : List Sp} {ob : Obj} (h1 : lo ≤ Bu) (h2 : Bu < hi) (h3 : hi ≤ base) (hv : W.cell? ⟨Bu, 0, none⟩ = some (.slice A o.length c)) (hf : W.frozen? ⟨Bu, 0, none⟩ = false)
    (ho : SRow W base A c o) (hb : Below W.heap.size W w0) (hob : ob.isCells = true) (HO : SRow W3 base A' c' l') (HG : (w0.alloc ob).grownBy W3 (Value.ownBlock (.slice A o.length c)))
    (HAT : Value.ownBlock (.slice A' l'.length c') = Value.ownBlock (.slice A o.length c) ∨ Value.ownBlock (.slice A' l'.length c') = some (w0.heap.size + 1)) :
    KeepsOthers W (W3.setCell ⟨Bu, 0, none⟩ (.slice A' l'.length c')) ∧ KpB lo hi Bu W (W3.setCell ⟨Bu, 0, none⟩ (.slice A' l'.length c')) ∧ BoxRow Bu base l' (W3.setCell ⟨Bu, 0, none⟩ (.slice A' l'.length c')) ∧
      Below lo W (W3.setCell ⟨Bu, 0, none⟩ (.slice A' l'.length c')) := by
  have hBu := lt_of_cell hv
  have hba : Below W.heap.size W (w0.alloc ob) := hb.alloc hb.size _
  have hs0 : (w0.alloc ob).heap.size = w0.heap.size + 1 := by simp
  have hrow : SRow w0 base A c o := by
    refine ⟨ho.1, ?_⟩
    rcases ho.2 with h | ⟨g, cap, cur, e, hg1, hg2, hg3⟩
    · exact .inl h
    · exact .inr ⟨g, cap, cur, e, hg1, (hb.block g (Array.getElem?_eq_some_iff.1 hg2).1).trans hg2, hg3⟩
  have hrowa : SRow (w0.alloc ob) base A c o := hrow.alloc _
  obtain ⟨k1, k2, k3⟩ := KpB.pushed (lo := lo) (hi := hi) h1 h2 hv hba hrowa HG (by rw [hs0]; exact HAT) HO h3
  have hne : some Bu ≠ Value.ownBlock (.slice A o.length c) := fun e => by have := ho.lt Bu e.symm; omega
  have hgb : ∀ k, Value.ownBlock (.slice A o.length c) = some k → lo ≤ k := fun k e => by have := ho.lt k e; omega
  refine ⟨?_, k1, ⟨A', c', k2, ?_, k3⟩, ?_⟩
  · have q1 : KeepsOthers W w0 := ⟨hb.size, fun k o hk _ => (hb.block k (Array.getElem?_eq_some_iff.1 hk).1).trans hk⟩
    refine ((q1.trans (KeepsOthers.alloc w0 ob)).trans (KeepsOthers.of_grownBy HG ?_)).trans (KeepsOthers.setCell _ _ _)
    intro j oj hj hoj
    rcases hrowa.2 with ⟨e', _⟩ | ⟨g', cap, cur, e', _, hgg, _⟩
    · rw [e'] at hj; simp [Value.ownBlock] at hj
    · rw [e'] at hj
      simp [Value.ownBlock] at hj
      subst hj
      rw [hgg] at hoj
      cases hoj
      rfl
  · rw [World.frozen?_setCell]
    exact (World.frozen?_of_block (HG.block Bu (by have := hba.size; omega) hne)).trans ((hba.frozen (p := ⟨Bu, 0, none⟩) hBu).trans hf)
  · have q2 : Below lo W (w0.alloc ob) := hba.mono (by omega)
    exact (q2.grown HG (by have := hba.size; omega) hgb).setCell (p := ⟨Bu, 0, none⟩) h1 _
theorem SRow.below {W w : World} {base : Nat} {A : Option Addr} {c : Nat} {l : List Sp} (h : SRow W base A c l) (hb : Below W.heap.size W w) : SRow w base A c l := by
  refine ⟨h.1, ?_⟩
  rcases h.2 with h | ⟨g, cap, cur, e, hg1, hg2, hg3⟩
  · exact .inl h
  · exact .inr ⟨g, cap, cur, e, hg1, (hb.block g (Array.getElem?_eq_some_iff.1 hg2).1).trans hg2, hg3⟩
theorem keeps_below {W w : World} (hb : Below W.heap.size W w) : KeepsOthers W w := ⟨hb.size, fun k o hk _ => (hb.block k (Array.getElem?_eq_some_iff.1 hk).1).trans hk⟩
/-- what is at hand where a range over span.Each begins, a new box beside it -/
theorem each_box {ro : List Sp} (hp : Plain ro) {w5 w6 : World} {B g c6 : Nat} (hE : (w5.alloc (.cells #[.slice none 0 0] 24)).heap.size ≤ B ∧ B < w6.heap.size ∧ (w5.alloc (.cells #[.slice none 0 0] 24)).heap.size ≤ g ∧ g < B)
    (hcB : w6.cell? ⟨B, 0, none⟩ = some (.slice (some ⟨g, 0, none⟩) ro.length c6)) (hsp : Spans w6 (some ⟨g, 0, none⟩) ro.length ro) (hb6 : Below (w5.alloc (.cells #[.slice none 0 0] 24)).heap.size (w5.alloc (.cells #[.slice none 0 0] 24)) w6) :
    Below w5.heap.size w5 w6 ∧ BoxRow w5.heap.size (w5.heap.size + 1) [] w6 ∧ w5.heap.size + 2 < w6.heap.size ∧
    SeqStopsK Fence.wide 7 Try.prog 100 #[.pointer (some ⟨B, 0, none⟩)] (fun x : Int => #[Value.int .i64 x]) (KpB w5.heap.size (w5.heap.size + 1) w5.heap.size) (fun ys => ys = nums ro) (fun pre => pre <+: nums ro) (nums ro).length w6 := by
  have hsz : (w5.alloc (.cells #[.slice none 0 0] 24)).heap.size = w5.heap.size + 1 := by simp
  rw [hsz] at hE
  have HW5 := (Below.refl w5.heap.size w5).alloc (Nat.le_refl _) (.cells #[.slice none 0 0] 24)
  have hb := heap_alloc_new w5 (.cells #[.slice none 0 0] 24)
  have hc : w6.cell? ⟨w5.heap.size, 0, none⟩ = some (.slice none 0 0) := by
    rw [hb6.cell (p := ⟨w5.heap.size, 0, none⟩) (by simp)]
    simp only [World.cell?, hb]; rfl
  have hf : w6.frozen? ⟨w5.heap.size, 0, none⟩ = false := by
    rw [hb6.frozen (p := ⟨w5.heap.size, 0, none⟩) (by simp)]
    unfold World.frozen?; rw [hb]; simp
  have hno : ∀ k, OwnB w5.heap.size (w5.heap.size + 1) w5.heap.size w6 k ↔ k = w5.heap.size := by
    intro k
    unfold OwnB
    rw [hc]
    simp; omega
  exact ⟨HW5.trans (hb6.mono (by simp)), ⟨none, 0, hc, hf, SRow.start _ _⟩, by omega,
    each_stops Fence.wide 7 trivial rfl (by omega) w5.heap.size (w5.heap.size + 1) w5.heap.size B g c6 ro hp w6 (by omega) (fun k hk => by have := (hno k).1 hk; omega) (fun hk => by have := (hno g).1 hk; omega) hcB (by omega) hsp⟩
end Go.Proofs.Ytdaagdohhnhbdaa
