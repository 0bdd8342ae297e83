/- The plain law of span.Norm: clipped spans, sorted by their lower ends and joined where they touch, are the plain list of the set; and what appending within a row does. No function of the program in sight. Condition: none. -/
import Derived.Test.YtdaagdohhnhbdaaMake
namespace Go.Proofs.Ytdaagdohhnhbdaa
open Go.RowKit
set_option linter.unusedVariables false

def clip (p : Sp) : Sp := (max p.1 (-1073741824), min p.2 1073741824)
def clips : List Sp → List Sp
  | [] => []
  | p :: l => if (clip p).1 ≤ (clip p).2 then clip p :: clips l else clips l
theorem clips_append (l m : List Sp) : clips (l ++ m) = clips l ++ clips m := by
  induction l with
  | nil => rfl
  | cons p l ih => simp only [List.cons_append, clips, ih]; split <;> rfl
theorem clips_length (l : List Sp) : (clips l).length ≤ l.length := by
  induction l with
  | nil => simp [clips]
  | cons p l ih => simp only [clips]; split <;> simp <;> omega
theorem clips_mem {l : List Sp} {p : Sp} (h : p ∈ clips l) : -1073741824 ≤ p.1 ∧ p.1 ≤ p.2 ∧ p.2 ≤ 1073741824 := by
  induction l with
  | nil => cases h
  | cons q l ih =>
    simp only [clips] at h
    split at h
    · rename_i hq
      rcases List.mem_cons.1 h with rfl | h
      · refine ⟨?_, hq, ?_⟩ <;> simp only [clip] <;> omega
      · exact ih h
    · exact ih h
theorem clips_InS (l : List Sp) (x : Int) : InS (clips l) x ↔ Mem l x := by
  unfold Mem
  induction l with
  | nil => simp [clips, InS]
  | cons q l ih =>
    simp only [clips, InS]
    split
    · simp only [InS, ih]
      simp only [clip]
      constructor
      · rintro (⟨h1, h2⟩ | ⟨h1, h2, h3⟩)
        · exact ⟨by omega, by omega, .inl ⟨by omega, by omega⟩⟩
        · exact ⟨h1, h2, .inr h3⟩
      · rintro ⟨h1, h2, h3 | h3⟩
        · exact .inl ⟨by omega, by omega⟩
        · exact .inr ⟨h1, h2, h3⟩
    · rename_i hq
      rw [ih]
      simp only [clip] at hq
      constructor
      · rintro ⟨h1, h2, h3⟩; exact ⟨h1, h2, .inr h3⟩
      · rintro ⟨h1, h2, h3 | h3⟩
        · omega
        · exact ⟨h1, h2, h3⟩
theorem InS_perm {l m : List Sp} (h : l.Perm m) (x : Int) : InS l x ↔ InS m x := by
  rw [InS_iff, InS_iff]
  exact ⟨fun ⟨p, hp, g⟩ => ⟨p, h.mem_iff.1 hp, g⟩, fun ⟨p, hp, g⟩ => ⟨p, h.mem_iff.2 hp, g⟩⟩

/-- what holds of what has been joined of the first i -/
structure NInv (l : List Sp) (i : Nat) (o : List Sp) : Prop where
  plain : Plain o
  same : ∀ x, InS o x ↔ InS (l.take i) x
  len : o.length ≤ i
  low : ∀ p ∈ o, ∀ y ∈ l.drop i, p.1 ≤ y.1
def Srt (l : List Sp) : Prop := l.Pairwise (fun p q => p.1 ≤ q.1) ∧ ∀ p ∈ l, -1073741824 ≤ p.1 ∧ p.1 ≤ p.2 ∧ p.2 ≤ 1073741824
theorem NInv.start (l : List Sp) : NInv l 0 [] := ⟨trivial, fun x => by simp [InS], by simp, by simp⟩
theorem srt_later {l : List Sp} (h : Srt l) {i : Nat} {x : Sp} (hi : l[i]? = some x) : ∀ y ∈ l.drop (i + 1), x.1 ≤ y.1 := by
  have h1 : (l.drop i).Pairwise (fun p q => p.1 ≤ q.1) := h.1.sublist (List.drop_sublist _ _)
  rw [drop_cons? hi] at h1
  exact (List.pairwise_cons.1 h1).1
theorem NInv.push {l o : List Sp} {i : Nat} {x : Sp} (hs : Srt l) (h : NInv l i o) (hi : l[i]? = some x) (hg : ∀ m q, o = m ++ [q] → q.2 + 1 < x.1) : NInv l (i + 1) (o ++ [x]) := by
  have hx := hs.2 x (List.mem_of_getElem? hi)
  refine ⟨?_, fun z => ?_, by have := h.len; simp; omega, ?_⟩
  · refine PlainF.snoc h.plain (by omega) (fun p hp => ?_) hx.2.1 hx.2.2
    rcases snoc_cases o with rfl | ⟨m, q, rfl⟩
    · cases hp
    · have hq := hg m q rfl
      have hl := PlainF.last h.plain
      rcases List.mem_append.1 hp with hp | hp
      · have := hl.2.1 p hp; omega
      · simp at hp; subst hp; exact hq
  · rw [take_snoc? hi, InS_append, InS_append, h.same]
  · intro p hp y hy
    rcases List.mem_append.1 hp with hp | hp
    · exact h.low p hp y (by rw [drop_cons? hi]; exact List.mem_cons_of_mem _ hy)
    · simp at hp; subst hp; exact srt_later hs hi y hy
theorem NInv.merge {l m : List Sp} {i : Nat} {x q : Sp} (hs : Srt l) (h : NInv l i (m ++ [q])) (hi : l[i]? = some x) (hg : x.1 ≤ q.2 + 1) : NInv l (i + 1) (m ++ [(q.1, max q.2 x.2)]) := by
  have hx := hs.2 x (List.mem_of_getElem? hi)
  have hl := PlainF.last h.plain
  have hq : q.1 ≤ x.1 := h.low q (by simp) x (by rw [drop_cons? hi]; simp)
  have hp0 : PlainF (-1073741826) (m ++ [q]) := h.plain
  have hqa : q.1 ∈ [q.1] := by simp
  have hqq : InS (m ++ [q]) q.1 := (InS_append _ _ _).2 (.inr (.inl ⟨by omega, hl.2.2.1⟩))
  have hql := hp0.low hqq
  refine ⟨?_, fun z => ?_, by have := h.len; simp at *; omega, ?_⟩
  · exact PlainF.snoc (PlainF.init hp0) hql (fun p hp => hl.2.1 p hp) (by simp only; omega) (by simp only; omega)
  · rw [take_snoc? hi, InS_append (l.take i), ← h.same, InS_append, InS_append]
    simp only [InS, or_false]
    constructor
    · rintro (g | g)
      · exact .inl (.inl g)
      · by_cases e : z ≤ q.2
        · exact .inl (.inr ⟨g.1, e⟩)
        · exact .inr ⟨by omega, by omega⟩
    · rintro ((g | g) | g)
      · exact .inl g
      · exact .inr ⟨g.1, by omega⟩
      · exact .inr ⟨by omega, by omega⟩
  · intro p hp y hy
    have hy' : y ∈ l.drop i := by rw [drop_cons? hi]; exact List.mem_cons_of_mem _ hy
    rcases List.mem_append.1 hp with hp | hp
    · exact h.low p (by simp [hp]) y hy'
    · simp at hp; subst hp; exact h.low q (by simp) y hy'
theorem NInv.rep {l l0 o : List Sp} (h : NInv l l.length o) (hp : l.Perm (clips l0)) : Rep o (Mem l0) := by
  refine ⟨h.plain, fun x => ?_⟩
  rw [h.same, List.take_length, InS_perm hp, clips_InS]

/-- a slice's own first elements -/
theorem own_cut {w : World} {base : Nat} {t : TypeId} {g n cap k : Nat} {M o : List Sp} (h : w.ownsRow base t 2 (.slice (some ⟨g, 0, none⟩) n cap) n (spanCells M)) (hk : k ≤ n) (ho : M.take k = o) : w.ownsRow base t 2 (.slice (some ⟨g, 0, none⟩) k cap) k (spanCells o) := by
  subst ho
  have hM : M.length = n := by have := h.1; rw [spanCells_length] at this; omega
  rcases h.2 with ⟨e0, _⟩ | ⟨g', cap', cur, e0, hb, hg, hn, hm, hs, ht⟩
  · cases e0
  · injection e0 with e1 _ e3
    injection e1 with e1
    injection e1 with e1
    subst e1; subst e3
    refine ⟨by rw [spanCells_length]; simp; omega, .inr ⟨g, cap, cur, rfl, hb, hg, by omega, hm, hs, ?_⟩⟩
    have e : spanCells M = spanCells (M.take k) ++ spanCells (M.drop k) := by rw [← spanCells_append, List.take_append_drop]
    have e2 : cur.toList.take (k * 2) = (cur.toList.take (n * 2)).take (k * 2) := by rw [List.take_take, Nat.min_eq_left (by omega)]
    rw [e2, ht, e, List.take_append_of_le_length (by rw [spanCells_length]; simp; omega), List.take_of_length_le (by rw [spanCells_length]; simp; omega)]

theorem spanCells_put (M : List Sp) (k : Nat) (x : Sp) (hk : k < M.length) : (spanCells M).take (k * 2) ++ [.int .i64 x.1, .int .i64 x.2] ++ (spanCells M).drop (k * 2 + 2) = spanCells (M.set k x) := by
  induction M generalizing k with
  | nil => simp at hk
  | cons q M ih =>
    have e : ∀ (q : Sp) M, spanCells (q :: M) = .int .i64 q.1 :: .int .i64 q.2 :: spanCells M := fun q M => by simp [spanCells]
    cases k with
    | zero => simp [e]
    | succ k =>
      have := ih k (by simpa using hk)
      simp only [List.set_cons_succ, e, show (k + 1) * 2 = k * 2 + 1 + 1 from by omega, show k * 2 + 1 + 1 + 2 = (k * 2 + 2) + 1 + 1 from by omega, List.take_succ_cons, List.drop_succ_cons, List.cons_append]
      rw [this]

theorem take_three (c news : List Value) (a b : Nat) (hn : news.length = 2) (hk : a + 2 ≤ b) (hl : b ≤ c.length) : (c.take a ++ news ++ c.drop (a + 2)).take b = c.take a ++ news ++ (c.drop (a + 2)).take (b - (a + 2)) := by
  have h1 : (c.take a ++ news).length = a + 2 := by simp; omega
  rw [List.take_append, h1, List.take_of_length_le (by omega)]

/-- 'out = append(out, x)' within a row that the call owns: the element takes its place in the row -/
theorem wpList_room {P : Program} {w0 : World} {ops : Array Oper} {rest : List Oper} {o : Oper} {a : Act} {Q : Exit → Act → World → Prop} (hgd : o.guard = none) (s x : Operand) (t : TypeId)
    (ho : o.op = .call { callee := .builtin .append, args := #[s, x], argTypes := #[t, t] })
    (base : Nat) (e : TypeId) (i : TypeInfo) (ht : P.underlying t = some (.slice e)) (hi : P.info? e = some i) (hsize : i.size = 2)
    {g n cap k : Nat} {M : List Sp} (hown : w0.ownsRow base e 2 (.slice (some ⟨g, 0, none⟩) n cap) n (spanCells M)) (hk : k < n) (hs : a.eval s = .slice (some ⟨g, 0, none⟩) k cap)
    (y : Sp) (e' : TypeId) (hx : a.eval x = .slice (some ⟨w0.heap.size, 0, none⟩) 1 1)
    (h : ∀ w', w'.ownsRow base e 2 (.slice (some ⟨g, 0, none⟩) n cap) n (spanCells (M.set k y)) → (w0.alloc (.cells #[.int .i64 y.1, .int .i64 y.2] e')).grownBy w' (some g) → wpList P ops Q rest (a.put o.dst (.slice (some ⟨g, 0, none⟩) (k + 1) cap)) w') :
    wpList P ops Q (o :: rest) a (w0.alloc (.cells #[.int .i64 y.1, .int .i64 y.2] e')) := by
  have hM : M.length = n := by have := hown.1; rw [spanCells_length] at this; omega
  have hal := hown.alloc (.cells #[.int .i64 y.1, .int .i64 y.2] e')
  have key : ∃ w', (Builtin.append_ #[t, t] o.type #[.slice (some ⟨g, 0, none⟩) k cap, .slice (some ⟨w0.heap.size, 0, none⟩) 1 1]).run P (w0.alloc (.cells #[.int .i64 y.1, .int .i64 y.2] e')) = .ok (.slice (some ⟨g, 0, none⟩) (k + 1) cap) w' ∧
      w'.ownsRow base e 2 (.slice (some ⟨g, 0, none⟩) n cap) n (spanCells (M.set k y)) ∧ (w0.alloc (.cells #[.int .i64 y.1, .int .i64 y.2] e')).grownBy w' (some g) := by
    rcases hal.2 with ⟨e0, _⟩ | ⟨g', cap', cur, e0, hb, hg, hn, hm, hcs, htk⟩
    · cases e0
    · injection e0 with e1 _ e3
      injection e1 with e1
      injection e1 with e1
      subst e1; subst e3
      have hr := run_append_room (P := P) (w0.alloc (.cells #[.int .i64 y.1, .int .i64 y.2] e')) t o.type e i ht hi g k cap cur hg ⟨w0.heap.size, 0, none⟩ 1 1 [.int .i64 y.1, .int .i64 y.2] (by rw [hsize]; rfl)
        (fun j u hu => by
          have e : (⟨w0.heap.size, 0, none⟩ : Addr).add j = ⟨w0.heap.size, 0 + j, none⟩ := by unfold Addr.add; split <;> simp_all
          rw [e]
          have hb := heap_alloc_new w0 (.cells #[.int .i64 y.1, .int .i64 y.2] e')
          simp only [World.cell?, hb]
          simpa using hu)
        (by intro u hu; simp at hu; rcases hu with rfl | rfl <;> rfl) (by omega) (by rw [hsize, hcs]; simp; omega)
      refine ⟨_, hr, ⟨by rw [spanCells_length]; simp [hM], .inr ⟨g, cap, _, rfl, hb, setRow_heap _ g cur _ e _ hg, hn, hm, ?_, ?_⟩⟩, ⟨rfl, rfl, rfl, by simp, fun j _ hj => setRow_other _ g j _ (fun e => hj (by simp [e]))⟩⟩
      · simp only [List.size_toArray, List.length_append, List.length_take, List.length_drop, Array.length_toList, hsize, List.length_cons, List.length_nil]
        omega
      · rw [← spanCells_put M k y (by omega), ← htk, hsize]
        simp only [List.length_cons, List.length_nil]
        have hlen : cur.toList.length = cap * 2 := by simpa using hcs
        rw [List.take_take, Nat.min_eq_left (by omega), List.drop_take]
        exact take_three _ _ _ _ rfl (by omega) (by omega)
  obtain ⟨w', hr, h2, h3⟩ := key
  refine wpList_plain hgd fun K hK => ?_
  unfold Oper.wp execOp
  simp only [ho, resolve, invoke, builtin, Sem.run_bind, Sem.run_pure, Result.andThen_ok, List.map_toArray, List.map_cons, List.map_nil, hs, hx, hr]
  exact hK _ _ (h w' h2 h3)

theorem room_push (o J ls : List Sp) (i : Nat) (x : Sp) (hi : ls[i]? = some x) (hl : o.length + J.length = i) : ∃ J', (o ++ J ++ ls.drop i).set o.length x = (o ++ [x]) ++ J' ++ ls.drop (i + 1) ∧ (o ++ [x]).length + J'.length = i + 1 := by
  cases J with
  | nil =>
    refine ⟨[], ?_, by simp at *; omega⟩
    rw [drop_cons? hi]
    simp
  | cons y J =>
    refine ⟨J ++ [x], ?_, by simp at *; omega⟩
    rw [drop_cons? hi]
    simp
theorem room_merge (m J ls : List Sp) (q : Sp) (i : Nat) (x : Sp) (z : Int) (hi : ls[i]? = some x) (hl : (m ++ [q]).length + J.length = i) :
    ∃ J', (spanCells ((m ++ [q]) ++ J ++ ls.drop i)).set (m.length * 2 + 1) (.int .i64 z) = spanCells ((m ++ [(q.1, z)]) ++ J' ++ ls.drop (i + 1)) ∧ (m ++ [(q.1, z)]).length + J'.length = i + 1 := by
  refine ⟨J ++ [x], ?_, by simp at *; omega⟩
  have e : (m ++ [(q.1, z)]) ++ (J ++ [x]) ++ ls.drop (i + 1) = (m ++ [(q.1, z)]) ++ (J ++ ls.drop i) := by rw [drop_cons? hi]; simp
  rw [e, List.append_assoc, spanCells_append (m ++ [q]), spanCells_append (m ++ [(q.1, z)]), ← spanCells_set m q z]
  exact List.set_append_left _ _ (by rw [spanCells_length]; simp; omega)
theorem row_at (o J ls : List Sp) (i : Nat) (x : Sp) (hi : ls[i]? = some x) (hl : o.length + J.length = i) : (o ++ J ++ ls.drop i)[i]? = some x := by
  rw [List.getElem?_append_right (by simp; omega), List.getElem?_drop]
  rw [← hi]; congr 1; simp; omega
theorem row_last (m J ls : List Sp) (q : Sp) (i : Nat) : ((m ++ [q]) ++ J ++ ls.drop i)[m.length]? = some q := by simp
end Go.Proofs.Ytdaagdohhnhbdaa
