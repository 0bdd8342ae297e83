/- 'out = append(out, span)' at a row of spans of the call's own, one or two spans at once, in a round too. Condition: fewer than 2^40 spans. Contracts of part.bits, part.Right, part.Whole, part.Value and of umlautref03.Two, Bits, Right, Value. Condition: the numbers are ints. Contract of umlautref03.Value. Condition: the numbers are ints. Plain facts on the values of parts: what comes of a span, and of which numbers a value comes. No program in sight. Condition: none. -/
import Derived.Test.YtpmhdjiacgckjaaM06
import Derived.Test.YtpmhdjiacgckjaaM04
import Derived.Test.YtpmhdjiacgckjaaM05
section
namespace Go.Proofs.Ytpmhdjiacgckjaa
open Go.RowKit Go.Shelf
set_option linter.unusedVariables false

/-- the row that a slice owns, as a list -/
def SRow (w : World) (base : Nat) (A : Option Addr) (c : Nat) (l : List Sp) : Prop := w.ownsRow base 52 2 (.slice A l.length c) l.length (spanCells l)
theorem SRow.start (w : World) (base : Nat) : SRow w base none 0 [] := World.ownsRow_nil _ _ _ _
theorem SRow.spans {w : World} {base : Nat} {A : Option Addr} {c : Nat} {l : List Sp} (h : SRow w base A c l) : Spans w A l.length l := Sl.of_own h
theorem SRow.alloc {w : World} {base : Nat} {A : Option Addr} {c : Nat} {l : List Sp} (h : SRow w base A c l) (o : Obj) : SRow (w.alloc o) base A c l := World.ownsRow.alloc h o
theorem SRow.drewN {w : World} {base : Nat} {A : Option Addr} {c : Nat} {l : List Sp} (h : SRow w base A c l) (q : Nat) : SRow (w.drewN q) base A c l := h
theorem SRow.drew {w : World} {base : Nat} {A : Option Addr} {c : Nat} {l : List Sp} (h : SRow w base A c l) : SRow w.drew base A c l := h
theorem SRow.pushed {B : Nat} {W w0 w' : World} {o : Obj} {base : Nat} {A : Option Addr} {c : Nat} {l : List Sp} (hb : Below B W w0) (hown : SRow w0 base A c l) (hB : B ≤ base) (hB' : B ≤ w0.heap.size)
    (hg : (w0.alloc o).grownBy w' (Value.ownBlock (.slice A l.length c))) : Below B W w' := below_pushed hb hown hB hB' hg
theorem SRow.lit (w : World) (base : Nat) (p1 p2 : Int) (h : base ≤ w.heap.size) : SRow (w.alloc (.cells #[.int .i64 p1, .int .i64 p2] 52)) base (some ⟨w.heap.size, 0, none⟩) 1 [(p1, p2)] :=
  ⟨rfl, .inr ⟨w.heap.size, 1, _, rfl, h, heap_alloc_new w _, Nat.le_refl _, by unfold maxLen; omega, rfl, rfl⟩⟩
theorem SRow.lit' {w : World} {base B : Nat} {p1 p2 : Int} (hB : B = w.heap.size) (h : base ≤ w.heap.size) : SRow (w.alloc (.cells #[.int .i64 p1, .int .i64 p2] 52)) base (some ⟨B, 0, none⟩) 1 [(p1, p2)] := by
  subst hB; exact SRow.lit w base p1 p2 h
theorem fst_zero (p : Sp) (l : List Sp) : (spanCells (p :: l)) = .int .i64 p.1 :: .int .i64 p.2 :: spanCells l := rfl

section
variable {w0 : World} {ops : Array Oper} {rest : List Oper} {o : Oper} {a : Act} {Q : Exit → Act → World → Prop} {base : Nat} {A : Option Addr} {c : Nat} {l : List Sp}
theorem wpList_pushS (hgd : o.guard = none) (s x : Operand) (ho : o.op = .call { callee := .builtin .append, args := #[s, x], argTypes := #[26, 26] })
    (hown : SRow w0 base A c l) (hs : a.eval s = .slice A l.length c) {p1 p2 : Int} (hx : a.eval x = .slice (some ⟨w0.heap.size, 0, none⟩) 1 1) (hn : l.length < 1099511627776) (hbase : base ≤ w0.heap.size)
    (h : ∀ (l' : List Sp) A' c' w', Hid (l' = l ++ [(p1, p2)]) → Hid (SRow w' base A' c' l') → Hid ((w0.alloc (.cells #[.int .i64 p1, .int .i64 p2] 52)).grownBy w' (Value.ownBlock (.slice A l.length c))) →
      Hid (Value.ownBlock (.slice A' l'.length c') = Value.ownBlock (.slice A l.length c) ∨ Value.ownBlock (.slice A' l'.length c') = some (w0.heap.size + 1)) → wpList Try.prog ops Q rest (a.put o.dst (.slice A' l'.length c')) w') :
    wpList Try.prog ops Q (o :: rest) a (w0.alloc (.cells #[.int .i64 p1, .int .i64 p2] 52)) := by
  obtain ⟨i0, hi, hz0, hz1, hz2⟩ := info_parts info59
  have hs0 : (w0.alloc (.cells #[.int .i64 p1, .int .i64 p2] 52)).heap.size = w0.heap.size + 1 := by simp
  refine wpList_append_own_at _ hgd s x 26 ho base 52 i0 _ 2 16 Try.underlying26 hi hz0 hz1 hz2 rfl (by decide) _ l.length (spanCells l) hs (hown.alloc _) ⟨w0.heap.size, 0, none⟩ 1 1 [.int .i64 p1, .int .i64 p2] hx rfl ?_ (one2 rfl rfl)
    (by unfold maxLen; omega) (by omega) (by rw [hs0]; omega) ?_
  · exact World.news_of_block (cs := #[.int .i64 p1, .int .i64 p2]) (t := 52) (fr := (0, 0)) (heap_alloc_new w0 _)
  · intro v' w' hown' hg _ hat
    obtain ⟨A', c', rfl⟩ := own_shape hown'
    have e : (l ++ [(p1, p2)]).length = l.length + 1 := by simp
    rw [hs0] at hat
    rw [← e] at hown' hat ⊢
    exact h _ A' c' w' rfl (by unfold Hid SRow; rw [spanCells_append]; exact hown') hg hat
theorem wpList_pushS2 (hgd : o.guard = none) (s x : Operand) (ho : o.op = .call { callee := .builtin .append, args := #[s, x], argTypes := #[26, 26] })
    (hown : SRow w0 base A c l) (hs : a.eval s = .slice A l.length c) {p1 p2 q1 q2 : Int} (hx : a.eval x = .slice (some ⟨w0.heap.size, 0, none⟩) 2 2) (hn : l.length < 1099511627776) (hbase : base ≤ w0.heap.size)
    (h : ∀ (l' : List Sp) A' c' w', Hid (l' = l ++ [(p1, p2), (q1, q2)]) → Hid (SRow w' base A' c' l') → Hid ((w0.alloc (.cells #[.int .i64 p1, .int .i64 p2, .int .i64 q1, .int .i64 q2] 52)).grownBy w' (Value.ownBlock (.slice A l.length c))) →
      Hid (Value.ownBlock (.slice A' l'.length c') = Value.ownBlock (.slice A l.length c) ∨ Value.ownBlock (.slice A' l'.length c') = some (w0.heap.size + 1)) → wpList Try.prog ops Q rest (a.put o.dst (.slice A' l'.length c')) w') :
    wpList Try.prog ops Q (o :: rest) a (w0.alloc (.cells #[.int .i64 p1, .int .i64 p2, .int .i64 q1, .int .i64 q2] 52)) := by
  obtain ⟨i0, hi, hz0, hz1, hz2⟩ := info_parts info59
  have hs0 : (w0.alloc (.cells #[.int .i64 p1, .int .i64 p2, .int .i64 q1, .int .i64 q2] 52)).heap.size = w0.heap.size + 1 := by simp
  refine wpList_append_own_at _ hgd s x 26 ho base 52 i0 _ 2 16 Try.underlying26 hi hz0 hz1 hz2 rfl (by decide) _ l.length (spanCells l) hs (hown.alloc _) ⟨w0.heap.size, 0, none⟩ 2 2 [.int .i64 p1, .int .i64 p2, .int .i64 q1, .int .i64 q2] hx rfl ?_ (by intro u hu; simp at hu; rcases hu with rfl | rfl | rfl | rfl <;> rfl)
    (by unfold maxLen; omega) (by omega) (by rw [hs0]; omega) ?_
  · exact World.news_of_block (cs := #[.int .i64 p1, .int .i64 p2, .int .i64 q1, .int .i64 q2]) (t := 52) (fr := (0, 0)) (heap_alloc_new w0 _)
  · intro v' w' hown' hg _ hat
    obtain ⟨A', c', rfl⟩ := own_shape hown'
    have e : (l ++ [(p1, p2), (q1, q2)]).length = l.length + 2 := by simp
    rw [hs0] at hat
    rw [← e] at hown' hat ⊢
    exact h _ A' c' w' rfl (by unfold Hid SRow; rw [spanCells_append]; exact hown') hg hat
theorem wpListIn_pushS {F : Fence} {nF : Nat} (hgd : o.guard = none) (s x : Operand) (ho : o.op = .call { callee := .builtin .append, args := #[s, x], argTypes := #[26, 26] })
    (hown : SRow w0 base A c l) (hs : a.eval s = .slice A l.length c) {p1 p2 : Int} (hx : a.eval x = .slice (some ⟨w0.heap.size, 0, none⟩) 1 1) (hn : l.length < 1099511627776) (hbase : base ≤ w0.heap.size)
    (h : ∀ (l' : List Sp) A' c' w', Hid (l' = l ++ [(p1, p2)]) → Hid (SRow w' base A' c' l') → Hid ((w0.alloc (.cells #[.int .i64 p1, .int .i64 p2] 52)).grownBy w' (Value.ownBlock (.slice A l.length c))) →
      Hid (Value.ownBlock (.slice A' l'.length c') = Value.ownBlock (.slice A l.length c) ∨ Value.ownBlock (.slice A' l'.length c') = some (w0.heap.size + 1)) → wpListIn F nF Try.prog ops Q rest (a.put o.dst (.slice A' l'.length c')) w') :
    wpListIn F nF Try.prog ops Q (o :: rest) a (w0.alloc (.cells #[.int .i64 p1, .int .i64 p2] 52)) := by
  obtain ⟨i0, hi, hz0, hz1, hz2⟩ := info_parts info59
  have hs0 : (w0.alloc (.cells #[.int .i64 p1, .int .i64 p2] 52)).heap.size = w0.heap.size + 1 := by simp
  refine Go.wpListIn_append_own_at _ hgd s x 26 ho base 52 i0 _ 2 16 Try.underlying26 hi hz0 hz1 hz2 rfl (by decide) _ l.length (spanCells l) hs (hown.alloc _) ⟨w0.heap.size, 0, none⟩ 1 1 [.int .i64 p1, .int .i64 p2] hx rfl ?_ (one2 rfl rfl)
    (by unfold maxLen; omega) (by omega) (by rw [hs0]; omega) ?_
  · exact World.news_of_block (cs := #[.int .i64 p1, .int .i64 p2]) (t := 52) (fr := (0, 0)) (heap_alloc_new w0 _)
  · intro v' w' hown' hg _ hat
    obtain ⟨A', c', rfl⟩ := own_shape hown'
    have e : (l ++ [(p1, p2)]).length = l.length + 1 := by simp
    rw [hs0] at hat
    rw [← e] at hown' hat ⊢
    exact h _ A' c' w' rfl (by unfold Hid SRow; rw [spanCells_append]; exact hown') hg hat
/-- the append alone, as a step of a region -/
theorem wp_pushS (hgd : o.guard = none) (s x : Operand) (ho : o.op = .call { callee := .builtin .append, args := #[s, x], argTypes := #[26, 26] })
    (hown : SRow w0 base A c l) (hs : a.eval s = .slice A l.length c) {p1 p2 : Int} (hx : a.eval x = .slice (some ⟨w0.heap.size, 0, none⟩) 1 1) (hn : l.length < 1099511627776) (hbase : base ≤ w0.heap.size) {K : Act → World → Prop}
    (h : ∀ (l' : List Sp) A' c' w', Hid (l' = l ++ [(p1, p2)]) → Hid (SRow w' base A' c' l') → Hid ((w0.alloc (.cells #[.int .i64 p1, .int .i64 p2] 52)).grownBy w' (Value.ownBlock (.slice A l.length c))) →
      Hid (Value.ownBlock (.slice A' l'.length c') = Value.ownBlock (.slice A l.length c) ∨ Value.ownBlock (.slice A' l'.length c') = some (w0.heap.size + 1)) → K (a.put o.dst (.slice A' l'.length c')) w') :
    o.wp Try.prog a (w0.alloc (.cells #[.int .i64 p1, .int .i64 p2] 52)) K Q := by
  obtain ⟨i0, hi, hz0, hz1, hz2⟩ := info_parts info59
  have hs0 : (w0.alloc (.cells #[.int .i64 p1, .int .i64 p2] 52)).heap.size = w0.heap.size + 1 := by simp
  obtain ⟨v', w', hr, hown', hg, _, hat⟩ := run_append_own_at (P := Try.prog) (w0.alloc (.cells #[.int .i64 p1, .int .i64 p2] 52)) base 26 o.type 52 i0 _ 2 16 Try.underlying26 hi hz0 hz1 hz2 rfl (by decide) (.slice A l.length c) l.length (spanCells l) (hown.alloc _) ⟨w0.heap.size, 0, none⟩ 1 1 [.int .i64 p1, .int .i64 p2] rfl
    (World.news_of_block (cs := #[.int .i64 p1, .int .i64 p2]) (t := 52) (fr := (0, 0)) (heap_alloc_new w0 _)) (one2 rfl rfl) (by unfold maxLen; omega) (by omega) (by rw [hs0]; omega)
  unfold Oper.wp execOp
  simp only [ho, resolve, invoke, builtin, Sem.run_bind, Sem.run_pure, Result.andThen_ok, List.map_toArray, List.map_cons, List.map_nil, hs, hx, hr]
  obtain ⟨A', c', rfl⟩ := own_shape hown'
  have e : (l ++ [(p1, p2)]).length = l.length + 1 := by simp
  rw [hs0] at hat
  rw [← e] at hown' hat ⊢
  exact h _ A' c' w' rfl (by unfold Hid SRow; rw [spanCells_append]; exact hown') hg hat
end

/-- how a function leaves that holds a range over a function -/
theorem leaveM_nil {P : Program} {F : Fence} {n : Nat} {fn : Func} {tmps : Array Value} {R : Ending → World → Prop} {w : World} (v : Value) (h : (results fn tmps).run P w = .ok v w) (hR : R (.returned v) w) : LeavesInM F n P fn tmps R [] .returning w := ⟨v, h, hR⟩
theorem leaveM_mark {P : Program} {F : Fence} {n : Nat} {fn : Func} {tmps : Array Value} {R : Ending → World → Prop} {w : World} {D : Nat} (v : Value) (hD : w.heap[D]? = some (.deferred (some []))) (h : ∀ w', (results fn tmps).run P w' = .ok v w')
    (hR : R (.returned v) (w.putObj D (.deferred none))) : LeavesInM F n P fn tmps R [{ target := .collected D, args := #[] }] .returning w :=
  ⟨by simp, .inl ⟨_, _, rfl, run_takeDeferred hD, v, h _, hR⟩⟩
theorem St.mark {w0 w1 w : World} {F : World → Prop} {A : Option Addr} {r : List Sp} {D : Nat} (h : St w0 w1 F) (hb : Below w1.heap.size w1 w) (hL : Lst A r w) (hD : w1.heap.size ≤ D) (hK : w.heap[D]? = some (.deferred (some []))) :
    St w0 (w.putObj D (.deferred none)) (fun W => Lst A r W ∧ F W) := by
  have hg := grownBy_putObj' w D (.deferred none)
  have hb' : Below w1.heap.size w1 (w.putObj D (.deferred none)) := hb.grown hg hb.size (fun k e => by cases e; exact hD)
  refine h.add hb' (fun W hW => ?_)
  refine Lst.below ⟨⟨hL.sp.1, fun hn => ?_⟩, hL.wd, hL.len⟩ hW
  obtain ⟨b, off, e, hc⟩ := hL.sp.2 hn
  exact ⟨b, off, e, fun j u hu => cell_kept (hc j u hu) hg (fun r e => by cases e; exact ⟨_, hK, rfl⟩)⟩

/-- a row of spans that a box holds -/
def BoxRow (Bu base : Nat) (o : List Sp) (W : World) : Prop := ∃ A c, W.cell? ⟨Bu, 0, none⟩ = some (.slice A o.length c) ∧ W.frozen? ⟨Bu, 0, none⟩ = false ∧ SRow W base A c o
theorem BoxRow.own {β : Type} (B Bu base : Nat) (f : β → List Sp) : OwnFrom B (fun s W => BoxRow Bu base (f s) W) := by
  rintro s X Y row ⟨A, c, h1, h2, h3⟩ hg hr
  refine ⟨A, c, cell_kept h1 hg (fun r e => (hr r e).2), (frozen_kept h1 hg (fun r e => (hr r e).2)).trans h2, ?_⟩
  refine h3.kept hg ?_
  rcases hb : Value.ownBlock (.slice A (f s).length c) with _ | g
  · exact .inl rfl
  · right
    intro e
    obtain ⟨_, o, ho, hc⟩ := hr g e.symm
    rcases h3.2 with ⟨e', _⟩ | ⟨g', cap, cur, e', _, hgg, _⟩
    · rw [e'] at hb; simp [Value.ownBlock] at hb
    · rw [e'] at hb
      simp [Value.ownBlock] at hb
      subst hb
      rw [hgg] at ho
      cases ho
      cases hc
theorem BoxRow.new (w : World) (base : Nat) : BoxRow w.heap.size base [] (w.alloc (.cells #[.slice none 0 0] 26)) := by
  have hb := heap_alloc_new w (.cells #[.slice none 0 0] 26)
  refine ⟨none, 0, ?_, ?_, SRow.start _ _⟩
  · simp only [World.cell?, hb]; rfl
  · unfold World.frozen?; rw [hb]; simp
theorem BoxRow.push {lo hi Bu base : Nat} {W w0 W3 : World} {A A' : Option Addr} {c c' : Nat} {o l' : List Sp} {ob : Obj} (h1 : lo ≤ Bu) (h2 : Bu < hi) (h3 : hi ≤ base) (hv : W.cell? ⟨Bu, 0, none⟩ = some (.slice A o.length c)) (hf : W.frozen? ⟨Bu, 0, none⟩ = false)
    (ho : SRow W base A c o) (hb : Below W.heap.size W w0) (hob : ob.isCells = true) (HO : SRow W3 base A' c' l') (HG : (w0.alloc ob).grownBy W3 (Value.ownBlock (.slice A o.length c)))
    (HAT : Value.ownBlock (.slice A' l'.length c') = Value.ownBlock (.slice A o.length c) ∨ Value.ownBlock (.slice A' l'.length c') = some (w0.heap.size + 1)) :
    KeepsOthers W (W3.setCell ⟨Bu, 0, none⟩ (.slice A' l'.length c')) ∧ KpB lo hi Bu W (W3.setCell ⟨Bu, 0, none⟩ (.slice A' l'.length c')) ∧ BoxRow Bu base l' (W3.setCell ⟨Bu, 0, none⟩ (.slice A' l'.length c')) ∧
      Below lo W (W3.setCell ⟨Bu, 0, none⟩ (.slice A' l'.length c')) := by
  have hBu := lt_of_cell hv
  have hba : Below W.heap.size W (w0.alloc ob) := hb.alloc hb.size _
  have hs0 : (w0.alloc ob).heap.size = w0.heap.size + 1 := by simp
  have hrow : SRow w0 base A c o := by
    refine ⟨ho.1, ?_⟩
    rcases ho.2 with h | ⟨g, cap, cur, e, hg1, hg2, hg3⟩
    · exact .inl h
    · exact .inr ⟨g, cap, cur, e, hg1, (hb.block g (Array.getElem?_eq_some_iff.1 hg2).1).trans hg2, hg3⟩
  have hrowa : SRow (w0.alloc ob) base A c o := hrow.alloc _
  obtain ⟨k1, k2, k3⟩ := KpB.pushed (lo := lo) (hi := hi) h1 h2 hv hba hrowa HG (by rw [hs0]; exact HAT) HO h3
  have hne : some Bu ≠ Value.ownBlock (.slice A o.length c) := fun e => by have := ho.lt Bu e.symm; omega
  have hgb : ∀ k, Value.ownBlock (.slice A o.length c) = some k → lo ≤ k := fun k e => by have := ho.lt k e; omega
  refine ⟨?_, k1, ⟨A', c', k2, ?_, k3⟩, ?_⟩
  · have q1 : KeepsOthers W w0 := ⟨hb.size, fun k o hk _ => (hb.block k (Array.getElem?_eq_some_iff.1 hk).1).trans hk⟩
    refine ((q1.trans (KeepsOthers.alloc w0 ob)).trans (KeepsOthers.of_grownBy HG ?_)).trans (KeepsOthers.setCell _ _ _)
    intro j oj hj hoj
    rcases hrowa.2 with ⟨e', _⟩ | ⟨g', cap, cur, e', _, hgg, _⟩
    · rw [e'] at hj; simp [Value.ownBlock] at hj
    · rw [e'] at hj
      simp [Value.ownBlock] at hj
      subst hj
      rw [hgg] at hoj
      cases hoj
      rfl
  · rw [World.frozen?_setCell]
    exact (World.frozen?_of_block (HG.block Bu (by have := hba.size; omega) hne)).trans ((hba.frozen (p := ⟨Bu, 0, none⟩) hBu).trans hf)
  · have q2 : Below lo W (w0.alloc ob) := hba.mono (by omega)
    exact (q2.grown HG (by have := hba.size; omega) hgb).setCell (p := ⟨Bu, 0, none⟩) h1 _
theorem SRow.below {W w : World} {base : Nat} {A : Option Addr} {c : Nat} {l : List Sp} (h : SRow W base A c l) (hb : Below W.heap.size W w) : SRow w base A c l := by
  refine ⟨h.1, ?_⟩
  rcases h.2 with h | ⟨g, cap, cur, e, hg1, hg2, hg3⟩
  · exact .inl h
  · exact .inr ⟨g, cap, cur, e, hg1, (hb.block g (Array.getElem?_eq_some_iff.1 hg2).1).trans hg2, hg3⟩
theorem keeps_below {W w : World} (hb : Below W.heap.size W w) : KeepsOthers W w := ⟨hb.size, fun k o hk _ => (hb.block k (Array.getElem?_eq_some_iff.1 hk).1).trans hk⟩
/-- what is at hand where a range over span.Each begins, a new box beside it -/
theorem each_box {ro : List Sp} (hp : Plain ro) {w5 w6 : World} {B g c6 : Nat} (hE : (w5.alloc (.cells #[.slice none 0 0] 26)).heap.size ≤ B ∧ B < w6.heap.size ∧ (w5.alloc (.cells #[.slice none 0 0] 26)).heap.size ≤ g ∧ g < B)
    (hcB : w6.cell? ⟨B, 0, none⟩ = some (.slice (some ⟨g, 0, none⟩) ro.length c6)) (hsp : Spans w6 (some ⟨g, 0, none⟩) ro.length ro) (hb6 : Below (w5.alloc (.cells #[.slice none 0 0] 26)).heap.size (w5.alloc (.cells #[.slice none 0 0] 26)) w6) :
    Below w5.heap.size w5 w6 ∧ BoxRow w5.heap.size (w5.heap.size + 1) [] w6 ∧ w5.heap.size + 2 < w6.heap.size ∧
    SeqStopsK Fence.wide 7 Try.prog 66 #[.pointer (some ⟨B, 0, none⟩)] (fun x : Int => #[Value.int .i64 x]) (KpB w5.heap.size (w5.heap.size + 1) w5.heap.size) (fun ys => ys = nums ro) (fun pre => pre <+: nums ro) (nums ro).length w6 := by
  have hsz : (w5.alloc (.cells #[.slice none 0 0] 26)).heap.size = w5.heap.size + 1 := by simp
  rw [hsz] at hE
  have HW5 := (Below.refl w5.heap.size w5).alloc (Nat.le_refl _) (.cells #[.slice none 0 0] 26)
  have hb := heap_alloc_new w5 (.cells #[.slice none 0 0] 26)
  have hc : w6.cell? ⟨w5.heap.size, 0, none⟩ = some (.slice none 0 0) := by
    rw [hb6.cell (p := ⟨w5.heap.size, 0, none⟩) (by simp)]
    simp only [World.cell?, hb]; rfl
  have hf : w6.frozen? ⟨w5.heap.size, 0, none⟩ = false := by
    rw [hb6.frozen (p := ⟨w5.heap.size, 0, none⟩) (by simp)]
    unfold World.frozen?; rw [hb]; simp
  have hno : ∀ k, OwnB w5.heap.size (w5.heap.size + 1) w5.heap.size w6 k ↔ k = w5.heap.size := by
    intro k
    unfold OwnB
    rw [hc]
    simp; omega
  exact ⟨HW5.trans (hb6.mono (by simp)), ⟨none, 0, hc, hf, SRow.start _ _⟩, by omega,
    each_stops Fence.wide 7 trivial rfl (by omega) w5.heap.size (w5.heap.size + 1) w5.heap.size B g c6 ro hp w6 (by omega) (fun k hk => by have := (hno k).1 hk; omega) (fun hk => by have := (hno g).1 hk; omega) hcB (by omega) hsp⟩
end Go.Proofs.Ytpmhdjiacgckjaa
end
section
namespace Go.Proofs.Ytpmhdjiacgckjaa
open Go.RowKit
set_option linter.unusedVariables false

def bitsB (d t u : Int) : Bool := decide (0 ≤ d) && decide (d ≤ 20) && decide (1 ≤ t) && decide (t ≤ 21) && decide (0 ≤ u) && decide (u ≤ 20) && (decide (u = 0) || decide (t ≤ 6))
theorem bitsB_iff (d t u : Int) : bitsB d t u = true ↔ (0 ≤ d ∧ d ≤ 20 ∧ 1 ≤ t ∧ t ≤ 21 ∧ 0 ≤ u ∧ u ≤ 20 ∧ (u = 0 ∨ t ≤ 6)) := by simp [bitsB, and_assoc]
def pag (a d t u : Int) : Value := .agg #[.int .i64 a, .int .i64 d, .int .i64 t, .int .i64 u]

theorem bcell1 {W w1 : World} (hb : Below W.heap.size W w1) : (∀ b o, b < W.heap.size → w1.cell? ⟨b, o, none⟩ = W.cell? ⟨b, o, none⟩) ∧ (∀ b o, b < W.heap.size → w1.frozen? ⟨b, o, none⟩ = W.frozen? ⟨b, o, none⟩) :=
  ⟨fun b o h => hb.cell (p := ⟨b, o, none⟩) h, fun b o h => hb.frozen (p := ⟨b, o, none⟩) h⟩

set_option maxHeartbeats 4000000 in
theorem bits_any (a d t u : Int) (w : World) : Gives Try.prog 50 #[.agg #[.int .i64 a, .int .i64 d, .int .i64 t, .int .i64 u]] w (.bool (bitsB d t u)) := by
  unfold Gives
  go_enter Try.func50, Try.ntmps50
  go_wp2
  all_goals (go_ret; refine ⟨ret_bool ?_, (Below.refl _ _).alloc (Nat.le_refl _) _⟩; rw [Bool.eq_iff_iff, bitsB_iff]; simp_all; try omega)
set_option maxHeartbeats 4000000 in
theorem rBits_any (a d t u : Int) (w : World) : Gives Try.prog 60 #[.agg #[.int .i64 a, .int .i64 d, .int .i64 t, .int .i64 u]] w (.bool (bitsB d t u)) := by
  unfold Gives
  go_enter Try.func60, Try.ntmps60
  go_wp2
  all_goals (go_ret; refine ⟨ret_bool ?_, (Below.refl _ _).alloc (Nat.le_refl _) _⟩; rw [Bool.eq_iff_iff, bitsB_iff]; simp_all; try omega)

/-- a power of 2 -/
def pw (n : Int) : Int := 2 ^ n.toNat
theorem pw_nat (k : Nat) : pw (k : Int) = 2 ^ k := by unfold pw; simp
theorem pw_pos (n : Int) : 1 ≤ pw n := by
  unfold pw
  have : (0 : Int) < 2 ^ n.toNat := Int.pow_pos (by decide)
  omega
theorem pw_succ {n : Int} (h : 0 ≤ n) : pw (n + 1) = 2 * pw n := by
  unfold pw
  rw [show (n + 1).toNat = n.toNat + 1 by omega, Int.pow_succ, Int.mul_comm]
theorem pw_mono {m n : Int} (h0 : 0 ≤ m) (h : m ≤ n) : pw m ≤ pw n := by
  obtain ⟨k, rfl⟩ : ∃ k : Nat, n = m + k := ⟨(n - m).toNat, by omega⟩
  clear h
  induction k with
  | zero => simp
  | succ k ih =>
    have := pw_succ (n := m + k) (by omega)
    have hp := pw_pos (m + k)
    rw [show m + ((k + 1 : Nat) : Int) = m + k + 1 by omega, this]; omega
theorem pw_le21 {n : Int} (h0 : 0 ≤ n) (h : n ≤ 21) : pw n ≤ 2097152 := pw_mono (n := 21) h0 h
theorem pw_le6 {n : Int} (h0 : 0 ≤ n) (h : n ≤ 6) : pw n ≤ 64 := pw_mono (n := 6) h0 h
/-- a part's value of a number -/
def pval (d t u x : Int) : Int := x / pw d % pw t * pw u
theorem pval_bd {d t u : Int} (h : bitsB d t u = true) (x : Int) : 0 ≤ pval d t u x ∧ pval d t u x ≤ 67108864 := by
  obtain ⟨h1, h2, h3, h4, h5, h6, h7⟩ := (bitsB_iff _ _ _).1 h
  unfold pval
  have ht := pw_pos t
  have hu := pw_pos u
  have m0 := Int.emod_nonneg (x / pw d) (b := pw t) (by omega)
  have m1 := Int.emod_lt_of_pos (x / pw d) (b := pw t) (by omega)
  refine ⟨Int.mul_nonneg m0 (by omega), ?_⟩
  rcases h7 with rfl | h7
  · have : pw 0 = 1 := rfl
    rw [this]
    have := pw_le21 (n := t) (by omega) h4
    omega
  · have ht6 := pw_le6 (n := t) (by omega) h7
    have hu6 := pw_le21 (n := u) h5 (by omega)
    have h20 : pw u ≤ 1048576 := pw_mono (n := 20) h5 h6
    have := Int.mul_le_mul (a := x / pw d % pw t) (b := pw u) (c := 63) (d := 1048576) (by omega) h20 (by omega) (by omega)
    omega

set_option maxHeartbeats 2000000 in
theorem Two_any (n : Int) (h0 : 0 ≤ n) (h : n ≤ 21) (w : World) : Calls Try.prog 61 #[.int .i64 n] w fun e w' => e = .returned (.int .i64 (pw n)) ∧ w = w' := by
  go_enter Try.func61, Try.ntmps61
  go_wp2_with fail
  go_loop [3, 4] (fun x i => ∃ k : Int, 0 ≤ k ∧ k ≤ n ∧ i = .int .i64 k ∧ x = .int .i64 (pw k)) (fun _ i => (n - intOf i).toNat)
  case atStart => exact ⟨0, by omega, h0, rfl, rfl⟩
  case round =>
    obtain ⟨k, hk0, hk, rfl, rfl⟩ := hrel
    have hp := pw_le21 hk0 (by omega)
    have hp1 := pw_pos k
    by_cases hlt : k < n
    · have E := Lib.hid (pw_succ hk0)
      go_wp2_with fail
      go_round
      case rel => exact ⟨k + 1, by omega, by omega, by go_num, by rw [E.out]⟩
      case measure => simp [intOf]; omega
    · obtain rfl : k = n := by omega
      go_wp2_with fail
      go_ret
      exact ⟨rfl, rfl⟩
def rightB (a d t u n : Int) : Bool := decide (0 ≤ a) && decide (a < n) && bitsB d t u
theorem Right_any (a d t u n : Int) (w : World) : Gives Try.prog 46 #[.agg #[.int .i64 a, .int .i64 d, .int .i64 t, .int .i64 u], .int .i64 n] w (.bool (rightB a d t u n)) := by
  have hb := fun w => bits_any a d t u w
  unfold Gives
  by_cases h1 : 0 ≤ a
  · by_cases h2 : a < n
    · have e : rightB a d t u n = bitsB d t u := by simp [rightB, h1, h2]
      rw [e]
      have HB := Lib.hid hb
      clear hb
      generalize bitsB d t u = v at *
      go_enter Try.func46, Try.ntmps46
      go_wp2_with (go_at_call 50; refine (HB.out _).out.mono ?_; rintro e w1 ⟨rfl, hb1⟩)
      go_ret
      exact ⟨rfl, below_to ((Below.refl _ _).alloc (Nat.le_refl _) _) hb1⟩
    · have e : rightB a d t u n = false := by simp [rightB, h2]
      rw [e]
      clear hb
      go_enter Try.func46, Try.ntmps46
      go_wp2_with fail
      go_ret
      exact ⟨rfl, (Below.refl _ _).alloc (Nat.le_refl _) _⟩
  · have e : rightB a d t u n = false := by simp [rightB, h1]
    rw [e]
    clear hb
    go_enter Try.func46, Try.ntmps46
    go_wp2_with fail
    go_ret
    exact ⟨rfl, (Below.refl _ _).alloc (Nat.le_refl _) _⟩
theorem rRight_any (a d t u n : Int) (w : World) : Gives Try.prog 40 #[.agg #[.int .i64 a, .int .i64 d, .int .i64 t, .int .i64 u], .int .i64 n] w (.bool (rightB a d t u n)) := by
  unfold Gives
  have HB := Lib.hid (fun w => rBits_any a d t u w)
  rcases hv : bitsB d t u with _ | _
  · have e : rightB a d t u n = false := by simp [rightB, hv]
    rw [hv] at HB
    rw [e]
    clear hv e
    go_enter Try.func40, Try.ntmps40
    go_wp2_with (go_at_call 60; refine (HB.out _).out.mono ?_; rintro e w1 ⟨rfl, hb1⟩)
    go_ret
    exact ⟨rfl, below_to ((Below.refl _ _).alloc (Nat.le_refl _) _) hb1⟩
  · have e : rightB a d t u n = (decide (0 ≤ a) && decide (a < n)) := by simp [rightB, hv]
    rw [hv] at HB
    rw [e]
    clear hv e
    by_cases h1 : 0 ≤ a <;> by_cases h2 : a < n
    all_goals
      go_enter Try.func40, Try.ntmps40
      go_wp2_with (go_at_call 60; refine (HB.out _).out.mono ?_; rintro e w1 ⟨rfl, hb1⟩; obtain ⟨hc, hf⟩ := bcell1 hb1)
      go_ret
      exact ⟨ret_bool (by simp [h1, h2]), below_to ((Below.refl _ _).alloc (Nat.le_refl _) _) hb1⟩

theorem w64_id {x : Int} (h0 : -9223372036854775808 ≤ x) (h1 : x ≤ 9223372036854775807) : wrap64 x = x := by unfold wrap64; omega
theorem band_nat (a b : Nat) (ha : a < 9223372036854775808) (hb : b < 9223372036854775808) : bits .and .i64 (a : Int) (b : Int) = ((a &&& b : Nat) : Int) := by
  have hx : a &&& b < 2 ^ 63 := Nat.and_lt_two_pow _ (by omega)
  have h1 : (BitVec.ofInt 64 (a : Int)).toNat = a := by
    rw [BitVec.ofInt_natCast, BitVec.toNat_ofNat]; exact Nat.mod_eq_of_lt (by omega)
  have h2 : (BitVec.ofInt 64 (b : Int)).toNat = b := by
    rw [BitVec.ofInt_natCast, BitVec.toNat_ofNat]; exact Nat.mod_eq_of_lt (by omega)
  show IntKind.i64.wrap ((BitVec.ofInt 64 (a : Int) &&& BitVec.ofInt 64 (b : Int)).toNat : Int) = _
  rw [BitVec.toNat_and, h1, h2]
  exact IntWalk.i64_in _ (by omega)
theorem bor_nat (a b : Nat) (ha : a < 9223372036854775808) (hb : b < 9223372036854775808) : bits .or .i64 (a : Int) (b : Int) = ((a ||| b : Nat) : Int) := by
  have hx : a ||| b < 2 ^ 63 := Nat.or_lt_two_pow (by omega) (by omega)
  have h1 : (BitVec.ofInt 64 (a : Int)).toNat = a := by
    rw [BitVec.ofInt_natCast, BitVec.toNat_ofNat]; exact Nat.mod_eq_of_lt (by omega)
  have h2 : (BitVec.ofInt 64 (b : Int)).toNat = b := by
    rw [BitVec.ofInt_natCast, BitVec.toNat_ofNat]; exact Nat.mod_eq_of_lt (by omega)
  show IntKind.i64.wrap ((BitVec.ofInt 64 (a : Int) ||| BitVec.ofInt 64 (b : Int)).toNat : Int) = _
  rw [BitVec.toNat_or, h1, h2]
  exact IntWalk.i64_in _ (by omega)
theorem two_nat (k : Nat) : ((2 ^ k : Nat) : Int) = 2 ^ k := by rw [Int.natCast_pow]; rfl
/-- the last bits of a number -/
theorem band_mask {a t : Int} (ha0 : 0 ≤ a) (ha : a ≤ 4503599627370496) (h0 : 0 ≤ t) (h1 : t ≤ 21) : bits .and .i64 a (pw t - 1) = a % pw t := by
  obtain ⟨m, rfl⟩ := Int.eq_ofNat_of_zero_le ha0
  obtain ⟨k, rfl⟩ := Int.eq_ofNat_of_zero_le h0
  have hp := pw_le21 h0 h1
  have hp1 := pw_pos (k : Int)
  rw [pw_nat] at *
  have e : ((2 : Int) ^ k - 1) = ((2 ^ k - 1 : Nat) : Int) := by
    have : 1 ≤ 2 ^ k := Nat.one_le_two_pow
    rw [Int.ofNat_sub this, two_nat]; rfl
  have hk : (2 : Nat) ^ k ≤ 2097152 := by rw [← two_nat k] at hp; omega
  rw [e, band_nat _ _ (by omega) (by omega), Nat.and_two_pow_sub_one_eq_mod, Int.natCast_emod, two_nat]
/-- bits laid above bits -/
theorem bor_above {j y t : Int} (hj0 : 0 ≤ j) (hj : j ≤ 4194304) (h0 : 0 ≤ t) (h1 : t ≤ 21) (hy0 : 0 ≤ y) (hy : y < pw t) : bits .or .i64 (j * pw t) y = j * pw t + y := by
  obtain ⟨m, rfl⟩ := Int.eq_ofNat_of_zero_le hj0
  obtain ⟨k, rfl⟩ := Int.eq_ofNat_of_zero_le h0
  obtain ⟨z, rfl⟩ := Int.eq_ofNat_of_zero_le hy0
  have hp := pw_le21 h0 h1
  rw [pw_nat] at *
  have hk : (2 : Nat) ^ k ≤ 2097152 := by rw [← two_nat k] at hp; omega
  have hz : z < 2 ^ k := by rw [← two_nat k] at hy; omega
  have hm : m * 2 ^ k ≤ 4194304 * 2097152 := Nat.mul_le_mul (by omega) hk
  have e : (m : Int) * 2 ^ k = ((m * 2 ^ k : Nat) : Int) := by rw [Int.natCast_mul, two_nat]
  rw [e, bor_nat _ _ (by omega) (by omega), ← Nat.shiftLeft_eq, ← Nat.shiftLeft_add_eq_or_of_lt hz, Nat.shiftLeft_eq, Int.natCast_add]

theorem ret_pairP {a b : Int} {c d : Bool} (h : a = b) (h' : c = d) : Ending.returned (.tuple #[.int .i64 a, .bool c]) = .returned (.tuple #[.int .i64 b, .bool d]) := by rw [h, h']
theorem val_eq {d t u x : Int} (b1 : 0 ≤ d) (b2 : d ≤ 20) (b3 : 1 ≤ t) (b4 : t ≤ 21) (b5 : 0 ≤ u) (b6 : u ≤ 20) (hx0 : 0 ≤ x) (hx1 : x ≤ 2097151) (hv : Hid (0 ≤ pval d t u x ∧ pval d t u x ≤ 67108864)) :
    wrap64 (bits BinOp.and IntKind.i64 (x / 2 ^ d.toNat) (wrap64 (wrap64 (2 ^ t.toNat) - 1)) * 2 ^ u.toNat) = pval d t u x := by
  have hp := pw_le21 (n := t) (by omega) b4
  have hp1 := pw_pos t
  have hd := pw_pos d
  have e1 : (2 : Int) ^ t.toNat = pw t := rfl
  have e2 : (2 : Int) ^ d.toNat = pw d := rfl
  have e3 : (2 : Int) ^ u.toNat = pw u := rfl
  rw [e1, e2, e3, w64_id (x := pw t) (by omega) (by omega), w64_id (x := pw t - 1) (by omega) (by omega)]
  have hq0 : 0 ≤ x / pw d := Int.ediv_nonneg hx0 (by omega)
  have hq1 : x / pw d ≤ x := Int.ediv_le_self _ hx0
  rw [band_mask hq0 (by omega) (by omega) b4]
  have h2 := hv.out
  unfold pval at h2 ⊢
  exact w64_id (by omega) (by omega)

set_option maxHeartbeats 4000000 in
theorem Value_any (a d t u x : Int) (w : World) : Gives Try.prog 47 #[.agg #[.int .i64 a, .int .i64 d, .int .i64 t, .int .i64 u], .int .i64 x] w
    (if bitsB d t u = true ∧ 0 ≤ x ∧ x ≤ 2097151 then .tuple #[.int .i64 (pval d t u x), .bool true] else .tuple #[.int .i64 0, .bool false]) := by
  unfold Gives
  have HB := Lib.hid (fun w => bits_any a d t u w)
  rcases hv : bitsB d t u with _ | _
  · rw [if_neg (by simp)]
    rw [hv] at HB
    clear hv
    go_enter Try.func47, Try.ntmps47
    go_wp2_with (go_at_call 50; refine (HB.out _).out.mono ?_; rintro e w1 ⟨rfl, hb1⟩)
    go_ret2
    exact ⟨rfl, below_to ((Below.refl _ _).alloc (Nat.le_refl _) _) hb1⟩
  rw [hv] at HB
  by_cases h0 : x < 0
  · rw [if_neg (by omega)]
    clear hv
    go_enter Try.func47, Try.ntmps47
    go_wp2_with (go_at_call 50; refine (HB.out _).out.mono ?_; rintro e w1 ⟨rfl, hb1⟩)
    go_ret2
    exact ⟨rfl, below_to ((Below.refl _ _).alloc (Nat.le_refl _) _) hb1⟩
  by_cases h1 : 2097151 < x
  · rw [if_neg (by omega)]
    clear hv
    go_enter Try.func47, Try.ntmps47
    go_wp2_with (go_at_call 50; refine (HB.out _).out.mono ?_; rintro e w1 ⟨rfl, hb1⟩)
    go_ret2
    exact ⟨rfl, below_to ((Below.refl _ _).alloc (Nat.le_refl _) _) hb1⟩
  rw [if_pos ⟨rfl, by omega, by omega⟩]
  obtain ⟨b1, b2, b3, b4, b5, b6, b7⟩ := (bitsB_iff _ _ _).1 hv
  have hx0 : 0 ≤ x := by omega
  have hx1 : x ≤ 2097151 := by omega
  have hv7 := Lib.hid (pval_bd hv x)
  clear b7 hv
  go_enter Try.func47, Try.ntmps47
  go_wp2_with (go_at_call 50; refine (HB.out _).out.mono ?_; rintro e w1 ⟨rfl, hb1⟩; obtain ⟨hc, hf⟩ := bcell1 hb1)
  go_quiet (fail)
  have HB1 := Lib.hid hb1
  clear hb1 hc hf
  go_wp2_with fail
  go_ret2
  refine ⟨ret_pairP ?_ rfl, below_drewN (below_to ((Below.refl _ _).alloc (Nat.le_refl _) _) HB1.out) _⟩
  exact val_eq b1 b2 b3 b4 b5 b6 hx0 hx1 hv7

end Go.Proofs.Ytpmhdjiacgckjaa
end
section
namespace Go.Proofs.Ytpmhdjiacgckjaa
open Go.RowKit
set_option linter.unusedVariables false

set_option maxRecDepth 100000 in
set_option maxHeartbeats 4000000 in
theorem rValue_any (a d t u x : Int) (w : World) : Gives Try.prog 41 #[.agg #[.int .i64 a, .int .i64 d, .int .i64 t, .int .i64 u], .int .i64 x] w
    (if bitsB d t u = true ∧ 0 ≤ x ∧ x ≤ 2097151 then .tuple #[.int .i64 (pval d t u x), .bool true] else .tuple #[.int .i64 0, .bool false]) := by
  unfold Gives
  have HB := Lib.hid (fun w => rBits_any a d t u w)
  rcases hv : bitsB d t u with _ | _
  · rw [if_neg (by simp)]
    rw [hv] at HB
    clear hv
    go_enter Try.func41, Try.ntmps41
    go_wp2_with (go_at_call 60; refine (HB.out _).out.mono ?_; rintro e w1 ⟨rfl, hb1⟩)
    go_ret2
    exact ⟨rfl, below_to ((Below.refl _ _).alloc (Nat.le_refl _) _) hb1⟩
  rw [hv] at HB
  by_cases h0 : x < 0
  · rw [if_neg (by omega)]
    clear hv
    go_enter Try.func41, Try.ntmps41
    go_wp2_with (go_at_call 60; refine (HB.out _).out.mono ?_; rintro e w1 ⟨rfl, hb1⟩)
    go_ret2
    exact ⟨rfl, below_to ((Below.refl _ _).alloc (Nat.le_refl _) _) hb1⟩
  by_cases h1 : 2097152 ≤ x
  · rw [if_neg (by omega)]
    clear hv
    go_enter Try.func41, Try.ntmps41
    go_wp2_with (go_at_call 60; refine (HB.out _).out.mono ?_; rintro e w1 ⟨rfl, hb1⟩)
    go_ret2
    exact ⟨rfl, below_to ((Below.refl _ _).alloc (Nat.le_refl _) _) hb1⟩
  rw [if_pos ⟨rfl, by omega, by omega⟩]
  obtain ⟨b1, b2, b3, b4, b5, b6, b7⟩ := (bitsB_iff _ _ _).1 hv
  have hx0 : 0 ≤ x := by omega
  have hx1 : x ≤ 2097151 := by omega
  have hv7 := Lib.hid (pval_bd hv x)
  have H1 : Hid (Pure Try.prog 61 #[.int .i64 d] (.int .i64 (pw d))) := Lib.hid fun w => Two_any d b1 (by omega) w
  have H2 : Hid (Pure Try.prog 61 #[.int .i64 t] (.int .i64 (pw t))) := Lib.hid fun w => Two_any t (by omega) b4 w
  have H3 : Hid (Pure Try.prog 61 #[.int .i64 u] (.int .i64 (pw u))) := Lib.hid fun w => Two_any u b5 (by omega) w
  have p1 := pw_pos d
  have p2 := pw_pos t
  have p3 := pw_pos u
  have n1 : ¬ pw d = 0 := by omega
  have n2 : ¬ pw t = 0 := by omega
  clear b7 hv
  go_enter Try.func41, Try.ntmps41
  go_wp2_with (go_at_call 60; refine (HB.out _).out.mono ?_; rintro e w1 ⟨rfl, hb1⟩; obtain ⟨hc, hf⟩ := bcell1 hb1)
  go_quiet ((first | (go_at_call_of 61 d; exact H1.out.quiet) | (go_at_call_of 61 t; exact H2.out.quiet) | (go_at_call_of 61 u; exact H3.out.quiet)))
  have HB1 := Lib.hid hb1
  clear hb1 hc hf
  go_wp2_with fail
  go_ret2
  refine ⟨ret_pairP ?_ rfl, below_drewN (below_to ((Below.refl _ _).alloc (Nat.le_refl _) _) HB1.out) _⟩
  have h2 := hv7.out
  unfold pval at h2 ⊢
  rw [Int.tmod_eq_emod_of_nonneg (Int.ediv_nonneg hx0 (by omega))]
  exact w64_id (by omega) (by omega)
end Go.Proofs.Ytpmhdjiacgckjaa
end
section
namespace Go.Proofs.Ytpmhdjiacgckjaa
open Go.RowKit
set_option linter.unusedVariables false

theorem div_span {D x1 x2 y : Int} (hD : 1 ≤ D) (hx : x1 ≤ x2) : (∃ x, x1 ≤ x ∧ x ≤ x2 ∧ x / D = y) ↔ (x1 / D ≤ y ∧ y ≤ x2 / D) := by
  constructor
  · rintro ⟨x, h1, h2, rfl⟩
    exact ⟨Int.ediv_le_ediv (by omega) h1, Int.ediv_le_ediv (by omega) h2⟩
  · rintro ⟨h1, h2⟩
    have h3 : y * D ≤ x2 := (Int.le_ediv_iff_mul_le (by omega)).1 h2
    by_cases h : x1 ≤ y * D
    · exact ⟨y * D, h, h3, Int.mul_ediv_cancel _ (by omega)⟩
    · have : y ≤ x1 / D := (Int.le_ediv_iff_mul_le (by omega)).2 (by omega)
      exact ⟨x1, Int.le_refl _, hx, by omega⟩
theorem res_all {T lo hi v : Int} (hT : 1 ≤ T) (h : T - 1 ≤ hi - lo) (h0 : 0 ≤ v) (h1 : v < T) : ∃ y, lo ≤ y ∧ y ≤ hi ∧ y % T = v := by
  have g0 := Int.emod_nonneg (v - lo) (b := T) (by omega)
  have g1 := Int.emod_lt_of_pos (v - lo) (b := T) (by omega)
  refine ⟨lo + (v - lo) % T, by omega, by omega, ?_⟩
  rw [Int.add_emod_emod, show lo + (v - lo) = v by omega]
  exact Int.emod_eq_of_lt h0 h1
theorem div_eq {T lo q m : Int} (h : lo = T * q + m) (h0 : 0 ≤ m) (h1 : m < T) : lo / T = q ∧ lo % T = m := by
  subst h
  have hT : T ≠ 0 := by omega
  constructor
  · rw [Int.add_comm, Int.add_mul_ediv_left _ _ hT, Int.ediv_eq_zero_of_lt h0 h1]; omega
  · rw [Int.add_comm, Int.add_mul_emod_self_left]; exact Int.emod_eq_of_lt h0 h1
theorem res_span {T lo hi v : Int} (hT : 1 ≤ T) (hl : lo ≤ hi) (h : hi - lo < T - 1) :
    (∃ y, lo ≤ y ∧ y ≤ hi ∧ y % T = v) ↔ (if lo % T ≤ hi % T then lo % T ≤ v ∧ v ≤ hi % T else (0 ≤ v ∧ v ≤ hi % T) ∨ (lo % T ≤ v ∧ v ≤ T - 1)) := by
  have a0 := Int.emod_nonneg lo (b := T) (by omega)
  have a1 := Int.emod_lt_of_pos lo (b := T) (by omega)
  have b0 := Int.emod_nonneg hi (b := T) (by omega)
  have b1 := Int.emod_lt_of_pos hi (b := T) (by omega)
  have ea := Int.mul_ediv_add_emod lo T
  have eb := Int.mul_ediv_add_emod hi T
  have hq : lo / T ≤ hi / T := Int.ediv_le_ediv (by omega) hl
  have hcase : hi / T = lo / T ∨ hi / T = lo / T + 1 ∨ lo / T + 2 ≤ hi / T := by omega
  have h2 : lo / T + 2 ≤ hi / T → False := by
    intro g
    have := Int.mul_le_mul_of_nonneg_left g (show 0 ≤ T by omega)
    rw [Int.mul_add] at this
    omega
  have hstep : T * (lo / T + 1) = T * (lo / T) + T := by rw [Int.mul_add, Int.mul_one]
  split
  · rename_i hle
    have e : hi / T = lo / T := by
      rcases hcase with e | e | e
      · exact e
      · rw [e, hstep] at eb; omega
      · exact (h2 e).elim
    rw [e] at eb
    constructor
    · rintro ⟨y, g1, g2, rfl⟩
      have ey := Int.mul_ediv_add_emod y T
      have q1 : lo / T ≤ y / T := Int.ediv_le_ediv (by omega) g1
      have q2 : y / T ≤ hi / T := Int.ediv_le_ediv (by omega) g2
      have : y / T = lo / T := by omega
      rw [this] at ey
      omega
    · rintro ⟨g1, g2⟩
      exact ⟨T * (lo / T) + v, by omega, by omega, (div_eq rfl (by omega) (by omega)).2⟩
  · rename_i hle
    have e : hi / T = lo / T + 1 := by
      rcases hcase with e | e | e
      · rw [e] at eb; omega
      · exact e
      · exact (h2 e).elim
    rw [e, hstep] at eb
    constructor
    · rintro ⟨y, g1, g2, rfl⟩
      have ey := Int.mul_ediv_add_emod y T
      have y0 := Int.emod_nonneg y (b := T) (by omega)
      have y1 := Int.emod_lt_of_pos y (b := T) (by omega)
      have q1 : lo / T ≤ y / T := Int.ediv_le_ediv (by omega) g1
      have q2 : y / T ≤ hi / T := Int.ediv_le_ediv (by omega) g2
      have : y / T = lo / T ∨ y / T = lo / T + 1 := by omega
      rcases this with q | q
      · rw [q] at ey; right; omega
      · rw [q, hstep] at ey; left; omega
    · rintro (⟨g1, g2⟩ | ⟨g1, g2⟩)
      · exact ⟨T * (lo / T + 1) + v, by rw [hstep]; omega, by rw [hstep]; omega, (div_eq rfl (by omega) (by omega)).2⟩
      · exact ⟨T * (lo / T) + v, by omega, by omega, (div_eq rfl (by omega) (by omega)).2⟩

theorem InS_one (a b x : Int) : InS [(a, b)] x ↔ (a ≤ x ∧ x ≤ b) := by simp [InS]
theorem InS_take_succ {m : List Sp} {k : Nat} {p : Sp} (h : m[k]? = some p) (x : Int) : InS (m.take (k + 1)) x ↔ (InS (m.take k) x ∨ (p.1 ≤ x ∧ x ≤ p.2)) := by
  rw [take_snoc? h, InS_append]; simp [InS]
/-- what comes of the numbers of a list, ahead of the last step -/
def ImInv (D T : Int) (m : List Sp) (o : List Sp) : Prop := (∀ v, InS o v ↔ ∃ x, InS m x ∧ x / D % T = v) ∧ ∀ p ∈ o, 0 ≤ p.1 ∧ p.1 ≤ p.2 ∧ p.2 ≤ T - 1
theorem ImInv.start (D T : Int) : ImInv D T [] [] := ⟨fun v => by simp [InS], by simp⟩
theorem im_span {D T : Int} (hD : 1 ≤ D) {x1 x2 : Int} (hx : x1 ≤ x2) (v : Int) : (∃ x, x1 ≤ x ∧ x ≤ x2 ∧ x / D % T = v) ↔ ∃ y, x1 / D ≤ y ∧ y ≤ x2 / D ∧ y % T = v := by
  constructor
  · rintro ⟨x, h1, h2, h3⟩
    have := (div_span hD hx).1 ⟨x, h1, h2, rfl⟩
    exact ⟨_, this.1, this.2, h3⟩
  · rintro ⟨y, h1, h2, h3⟩
    obtain ⟨x, g1, g2, rfl⟩ := (div_span hD hx).2 ⟨h1, h2⟩
    exact ⟨x, g1, g2, h3⟩
theorem ImInv.next {D T : Int} {m : List Sp} {o : List Sp} {k : Nat} {x1 x2 : Int} {n : List Sp} (h : ImInv D T (m.take k) o) (hx : m[k]? = some (x1, x2))
    (hn : ∀ v, InS n v ↔ ∃ x, x1 ≤ x ∧ x ≤ x2 ∧ x / D % T = v) (hb : ∀ p ∈ n, 0 ≤ p.1 ∧ p.1 ≤ p.2 ∧ p.2 ≤ T - 1) : ImInv D T (m.take (k + 1)) (o ++ n) := by
  refine ⟨fun v => ?_, fun p hp => ?_⟩
  · rw [InS_append, h.1, hn]
    constructor
    · rintro (⟨x, g1, g2⟩ | ⟨x, g1, g2, g3⟩)
      · exact ⟨x, (InS_take_succ hx x).2 (.inl g1), g2⟩
      · exact ⟨x, (InS_take_succ hx x).2 (.inr ⟨g1, g2⟩), g3⟩
    · rintro ⟨x, g1, g2⟩
      rcases (InS_take_succ hx x).1 g1 with g | g
      · exact .inl ⟨x, g, g2⟩
      · exact .inr ⟨x, g.1, g.2, g2⟩
  · rcases List.mem_append.1 hp with g | g
    · exact h.2 p g
    · exact hb p g
theorem ImInv.one {D T : Int} {m : List Sp} {o : List Sp} {k : Nat} {x1 x2 : Int} (hD : 1 ≤ D) (hT : 1 ≤ T) (h : ImInv D T (m.take k) o) (hx : m[k]? = some (x1, x2)) (hxx : x1 ≤ x2)
    (hs : x2 / D - x1 / D < T - 1) (hle : x1 / D % T ≤ x2 / D % T) : ImInv D T (m.take (k + 1)) (o ++ [(x1 / D % T, x2 / D % T)]) := by
  have a0 := Int.emod_nonneg (x1 / D) (b := T) (by omega)
  have b1 := Int.emod_lt_of_pos (x2 / D) (b := T) (by omega)
  refine h.next hx (fun v => ?_) (fun p hp => by simp at hp; subst hp; simp only; omega)
  rw [InS_one, im_span hD hxx, res_span hT (Int.ediv_le_ediv (by omega) hxx) hs, if_pos hle]
theorem ImInv.two {D T : Int} {m : List Sp} {o : List Sp} {k : Nat} {x1 x2 : Int} (hD : 1 ≤ D) (hT : 1 ≤ T) (h : ImInv D T (m.take k) o) (hx : m[k]? = some (x1, x2)) (hxx : x1 ≤ x2)
    (hs : x2 / D - x1 / D < T - 1) (hle : ¬ x1 / D % T ≤ x2 / D % T) : ImInv D T (m.take (k + 1)) (o ++ [(0, x2 / D % T), (x1 / D % T, T - 1)]) := by
  have a0 := Int.emod_nonneg (x1 / D) (b := T) (by omega)
  have a1 := Int.emod_lt_of_pos (x1 / D) (b := T) (by omega)
  have b0 := Int.emod_nonneg (x2 / D) (b := T) (by omega)
  have b1 := Int.emod_lt_of_pos (x2 / D) (b := T) (by omega)
  refine h.next hx (fun v => ?_) (fun p hp => by simp at hp; rcases hp with rfl | rfl <;> simp only <;> omega)
  rw [im_span hD hxx, res_span hT (Int.ediv_le_ediv (by omega) hxx) hs, if_neg hle]
  simp [InS]
theorem ImInv.full {D T : Int} {m : List Sp} {k : Nat} {x1 x2 : Int} (hD : 1 ≤ D) (hT : 1 ≤ T) (hx : m[k]? = some (x1, x2)) (hxx : x1 ≤ x2)
    (hs : T - 1 ≤ x2 / D - x1 / D) : ImInv D T m [(0, T - 1)] := by
  refine ⟨fun v => ?_, fun p hp => by simp at hp; subst hp; simp only; omega⟩
  rw [InS_one]
  constructor
  · rintro ⟨h0, h1⟩
    obtain ⟨x, g1, g2, g3⟩ := (im_span hD hxx v).2 (res_all hT hs h0 (by omega))
    exact ⟨x, InS_of_mem (List.mem_of_getElem? hx) g1 g2, g3⟩
  · rintro ⟨x, _, rfl⟩
    have := Int.emod_nonneg (x / D) (b := T) (by omega)
    have := Int.emod_lt_of_pos (x / D) (b := T) (by omega)
    omega

theorem nums_mem (r : List Sp) (x : Int) : x ∈ nums r ↔ InS r x := by
  rw [InS_iff]
  simp only [nums, List.mem_flatMap, numsOf, List.mem_map, List.mem_range]
  constructor
  · rintro ⟨p, hp, i, hi, rfl⟩
    exact ⟨p, hp, by omega, by omega⟩
  · rintro ⟨p, hp, h1, h2⟩
    exact ⟨p, hp, (x - p.1).toNat, by omega, by omega⟩
/-- the values of a set's numbers; the numbers whose values are in another set -/
def ImgS (d t u : Int) (a : List Sp) (v : Int) : Prop := bitsB d t u = true ∧ ∃ x, Mem a x ∧ 0 ≤ x ∧ x ≤ 2097151 ∧ pval d t u x = v
def PreS (d t u : Int) (a g : List Sp) (x : Int) : Prop := bitsB d t u = true ∧ Mem a x ∧ 0 ≤ x ∧ x ≤ 2097151 ∧ Mem g (pval d t u x)
def TkS (t u : Int) (g : List Sp) (y : Int) : Prop := 0 ≤ y ∧ y ≤ pw t - 1 ∧ Mem g (y * pw u)
def topM (a : List Sp) (x : Int) : Prop := Mem a x ∧ Mem [(0, 2097151)] x
theorem topM_iff (a : List Sp) (x : Int) : topM a x ↔ (Mem a x ∧ 0 ≤ x ∧ x ≤ 2097151) := by
  constructor
  · rintro ⟨h, _, _, h3⟩
    exact ⟨h, (InS_one _ _ _).1 h3⟩
  · rintro ⟨h, h3⟩
    exact ⟨h, h.1, h.2.1, (InS_one _ _ _).2 h3⟩
theorem rep_img (d t u : Int) (a : List Sp) : ∃ r, Hid (Rep r (ImgS d t u a)) := rep_all _ fun v ⟨hb, x, _, _, _, hv⟩ => by have := pval_bd hb x; omega
theorem rep_pre (d t u : Int) (a g : List Sp) : ∃ r, Hid (Rep r (PreS d t u a g)) := rep_all _ fun v ⟨_, h, _⟩ => h.bound
theorem rep_tk {t : Int} (h0 : 0 ≤ t) (h : t ≤ 21) (u : Int) (g : List Sp) : ∃ r, Hid (Rep r (TkS t u g)) := rep_all _ fun v ⟨h1, h2, _⟩ => by have := pw_le21 h0 h; omega
theorem ImInv.rep0 {d t : Int} {a m o r : List Sp} (hb : bitsB d t 0 = true) (hm : Rep m (topM a)) (h : ImInv (pw d) (pw t) m o) (hr : Rep r (Mem o)) : Rep r (ImgS d t 0 a) := by
  refine hr.congr fun v => ?_
  have ht := pw_le21 (n := t) (by have := (bitsB_iff _ _ _).1 hb; omega) (by have := (bitsB_iff _ _ _).1 hb; omega)
  have e : Mem o v ↔ InS o v := by
    refine ⟨fun h => h.2.2, fun hv => ?_⟩
    obtain ⟨p, hp, g1, g2⟩ := (InS_iff _ _).1 hv
    have := h.2 p hp
    exact ⟨by omega, by omega, hv⟩
  rw [e, h.1]
  unfold ImgS
  simp only [hm.2, topM_iff, hb, true_and, pval]
  have e0 : pw 0 = 1 := rfl
  simp only [e0, Int.mul_one, and_assoc]
theorem ImInv.repU {d t u : Int} {a m o r : List Sp} (hb : bitsB d t u = true) (hm : Rep m (topM a)) (h : ImInv (pw d) (pw t) m o) (hr : Rep r (Mem o)) {s : List Sp}
    (hs : Rep s (Mem ((nums r).map fun v => (v * pw u, v * pw u)))) : Rep s (ImgS d t u a) := by
  refine hs.congr fun v => ?_
  obtain ⟨b1, b2, b3, b4, b5, b6, b7⟩ := (bitsB_iff _ _ _).1 hb
  have ht := pw_le21 (n := t) (by omega) b4
  have e : ∀ y, InS r y ↔ InS o y := fun y => by
    rw [hr.2]
    refine ⟨fun h => h.2.2, fun hv => ?_⟩
    obtain ⟨p, hp, g1, g2⟩ := (InS_iff _ _).1 hv
    have := h.2 p hp
    exact ⟨by omega, by omega, hv⟩
  have e2 : InS ((nums r).map fun v => (v * pw u, v * pw u)) v ↔ ∃ y, InS r y ∧ y * pw u = v := by
    rw [InS_iff]
    constructor
    · rintro ⟨p, hp, g1, g2⟩
      obtain ⟨y, hy, rfl⟩ := List.mem_map.1 hp
      exact ⟨y, (nums_mem r y).1 hy, by simp only at g1 g2; omega⟩
    · rintro ⟨y, hy, rfl⟩
      exact ⟨_, List.mem_map.2 ⟨y, (nums_mem r y).2 hy, rfl⟩, Int.le_refl _, Int.le_refl _⟩
  have e3 : ImgS d t u a v ↔ ∃ y, InS r y ∧ y * pw u = v := by
    unfold ImgS
    constructor
    · rintro ⟨_, x, hx, h0, h1, rfl⟩
      exact ⟨_, (e _).2 ((h.1 _).2 ⟨x, (hm.2 x).2 ((topM_iff a x).2 ⟨hx, h0, h1⟩), rfl⟩), rfl⟩
    · rintro ⟨y, hy, rfl⟩
      obtain ⟨x, hx, rfl⟩ := (h.1 _).1 ((e _).1 hy)
      obtain ⟨g1, g2, g3⟩ := (topM_iff a x).1 ((hm.2 x).1 hx)
      exact ⟨hb, x, g1, g2, g3, rfl⟩
  rw [e3, ← e2]
  refine ⟨fun g => g.2.2, fun g => ⟨?_, ?_, g⟩⟩
  all_goals
    obtain ⟨_, x, _, _, _, hv⟩ := e3.2 (e2.1 g)
    have := pval_bd hb x
    omega
/-- a plain list of numbers between two has not many spans -/
theorem PlainF.len_in {a lo hi : Int} {l : List Sp} (h : PlainF a l) (hlo : ∀ x, InS l x → lo ≤ x) (hhi : ∀ x, InS l x → x ≤ hi) (hle : lo ≤ hi + 1) : 2 * (l.length : Int) ≤ hi - lo + 2 := by
  induction l generalizing a lo with
  | nil => simp; omega
  | cons p l ih =>
    obtain ⟨h1, h2, h3, h4⟩ := h
    have g1 := hlo p.1 (.inl ⟨by omega, h2⟩)
    have g2 := hhi p.2 (.inl ⟨h2, by omega⟩)
    cases l with
    | nil => simp; omega
    | cons q l =>
      have g3 := hhi q.1 (.inr (.inl ⟨by omega, h4.2.1⟩))
      have g4 := h4.1
      have := ih h4 (lo := p.2 + 2) (fun x hx => by have := h4.low hx; omega) (fun x hx => hhi x (.inr hx)) (by omega)
      simp only [List.length_cons] at this ⊢
      omega
theorem topM_len {a m : List Sp} (h : Rep m (topM a)) : m.length ≤ 1048576 := by
  have := PlainF.len_in h.1 (lo := 0) (hi := 2097151) (fun x hx => ((topM_iff a x).1 ((h.2 x).1 hx)).2.1) (fun x hx => ((topM_iff a x).1 ((h.2 x).1 hx)).2.2) (by omega)
  omega
theorem topM_mem {a m : List Sp} (h : Rep m (topM a)) {k : Nat} {x1 x2 : Int} (hk : m[k]? = some (x1, x2)) : 0 ≤ x1 ∧ x1 ≤ x2 ∧ x2 ≤ 2097151 := by
  have hp := PlainF.mem h.1 (List.mem_of_getElem? hk)
  have h12 : x1 ≤ x2 := by simp only at hp; omega
  have g1 := (topM_iff a x1).1 ((h.2 x1).1 (InS_of_mem (List.mem_of_getElem? hk) (Int.le_refl _) h12))
  have g2 := (topM_iff a x2).1 ((h.2 x2).1 (InS_of_mem (List.mem_of_getElem? hk) h12 (Int.le_refl _)))
  omega
/-- the spans that hold a set's numbers of a block -/
theorem pre_span {D T x1 x2 y1 y2 j x : Int} (hD : 1 ≤ D) (hT : 1 ≤ T) (h0 : 0 ≤ y1) (h1 : y2 ≤ T - 1) :
    (max x1 ((j * T + y1) * D) ≤ x ∧ x ≤ min x2 ((j * T + y2 + 1) * D - 1)) ↔ (x1 ≤ x ∧ x ≤ x2 ∧ x / D / T = j ∧ y1 ≤ x / D % T ∧ x / D % T ≤ y2) := by
  have e1 : (j * T + y1) * D ≤ x ↔ j * T + y1 ≤ x / D := (Int.le_ediv_iff_mul_le (by omega)).symm
  have e2 : x ≤ (j * T + y2 + 1) * D - 1 ↔ x / D ≤ j * T + y2 := by
    have := Int.ediv_lt_iff_lt_mul (a := x) (b := j * T + y2 + 1) (c := D) (by omega)
    omega
  have e3 : (j * T + y1 ≤ x / D ∧ x / D ≤ j * T + y2) ↔ (x / D / T = j ∧ y1 ≤ x / D % T ∧ x / D % T ≤ y2) := by
    generalize x / D = z
    have ez := Int.mul_ediv_add_emod z T
    have z0 := Int.emod_nonneg z (b := T) (by omega)
    have z1 := Int.emod_lt_of_pos z (b := T) (by omega)
    constructor
    · rintro ⟨g1, g2⟩
      have q := div_eq (T := T) (lo := z) (q := j) (m := z - T * j) (by omega) (by rw [Int.mul_comm]; omega) (by rw [Int.mul_comm]; omega)
      rw [q.1, q.2, Int.mul_comm]
      omega
    · rintro ⟨rfl, g1, g2⟩
      rw [Int.mul_comm] at ez
      omega
  omega
end Go.Proofs.Ytpmhdjiacgckjaa
end
