/- Words for the rows that (*finder).from puts together: their headers, each one's own block, what the sets hang on; a row more, a set in its place. No function of the program in sight. Condition: none. -/
import Derived.Test.YtpmhdjiacgckjaaM12
section
namespace Go.Proofs.Ytpmhdjiacgckjaa
open Go.RowKit
set_option linter.unusedVariables false
set_option linter.unusedSimpArgs false
abbrev RowI := Item (Item Sp)
theorem nodup_at {α : Type} {l : List α} (h : l.Nodup) {i j : Nat} {v : α} (hi : l[i]? = some v) (hj : l[j]? = some v) : i = j := by
  induction l generalizing i j with
  | nil => simp at hi
  | cons x l ih =>
    rw [List.nodup_cons] at h
    cases i with
    | zero => cases j with
      | zero => rfl
      | succ j =>
        simp at hi hj; subst hi
        exact absurd (List.mem_of_getElem? hj) h.1
    | succ i => cases j with
      | zero =>
        simp at hi hj; subst hj
        exact absurd (List.mem_of_getElem? hi) h.1
      | succ j => exact congrArg (· + 1) (ih h.2 (by simpa using hi) (by simpa using hj))
theorem ownsRow_set0 {W : World} {n b c : Nat} {et : TypeId} {s0 s' : Item Sp} {t : List (Item Sp)} (h : W.ownsRow n et 1 (.slice (some ⟨b, 0, none⟩) (s0 :: t).length c) (s0 :: t).length (icells (s0 :: t))) :
    (W.setCell ⟨b, 0, none⟩ (ival s')).ownsRow n et 1 (.slice (some ⟨b, 0, none⟩) (s' :: t).length c) (s' :: t).length (icells (s' :: t)) := by
  refine ⟨by simp [icells], ?_⟩
  rcases h.2 with ⟨e, _⟩ | ⟨g, cap, cur, e, hg, hh, hc, hm, hs, ht⟩
  · cases e
  · injection e with e1 e2 e3
    injection e1 with e1; injection e1 with e1; subst e1; subst e3
    have hpos : 0 < cur.size := by simp at hc; omega
    refine .inr ⟨b, c, cur.setIfInBounds 0 (ival s'), rfl, hg, ?_, by simpa using hc, hm, by simpa using hs, ?_⟩
    · exact heap_setCell_same W b 0 cur et (ival s') hh
    · rw [Array.toList_setIfInBounds, List.take_set]
      have e : (s' :: t).length * 1 = (s0 :: t).length * 1 := by simp
      rw [e, ht]; simp [icells]
/-- what the sets of these rows may hang on -/
def FrP (N fb m0 : Nat) (A : Option Addr) (L : List RowI) (k : Nat) : Prop := (k < N ∧ k ≠ fb) ∨ (m0 ≤ k ∧ ownA A ≠ some k ∧ ∀ y ∈ L, ownA y.1 ≠ some k)
structure FrI (N fb m0 n : Nat) (A : Option Addr) (c : Nat) (L : List RowI) (W : World) : Prop where
  own : W.ownsRow n 25 1 (.slice A L.length c) L.length (icells L)
  row : ∀ x ∈ L, ∃ b, x.1 = some ⟨b, 0, none⟩ ∧ ownA A ≠ some b ∧ W.ownsRow n 26 1 (.slice x.1 x.2.2.length x.2.1) x.2.2.length (icells x.2.2)
  dist : (L.map fun x => ownA x.1).Nodup
  sets : ∀ x ∈ L, ∀ s ∈ x.2.2, Dep (FrP N fb m0 A L) W (Lst s.1 s.2.2)
section
variable {N fb m0 n : Nat} {A A' : Option Addr} {c c' : Nat} {L : List RowI} {W W' : World}
theorem FrI.rb (h : FrI N fb m0 n A c L W) {x : RowI} (hx : x ∈ L) : ∃ b, x.1 = some ⟨b, 0, none⟩ ∧ ownA x.1 = some b ∧ n ≤ b ∧ b < W.heap.size ∧ ownA A ≠ some b := by
  obtain ⟨b, e, hA, hown⟩ := h.row x hx
  have := hown.lt b (by rw [own_ownA, e]; rfl)
  exact ⟨b, e, by rw [e]; rfl, this.1, this.2, hA⟩
theorem FrI.lA (h : FrI N fb m0 n A c L W) : ∀ k, ownA A = some k → n ≤ k ∧ k < W.heap.size := fun k hk => h.own.lt k (by rw [own_ownA]; exact hk)
theorem FrI.nil_ (N fb m0 n : Nat) (W : World) : FrI N fb m0 n none 0 [] W := ⟨World.ownsRow_nil _ _ _ _, fun x hx => (by cases hx), List.nodup_nil, fun x hx => (by cases hx)⟩
theorem FrI.keep (h : FrI N fb m0 n A c L W) (hs : W.heap.size ≤ W'.heap.size) (hk : ∀ k, k < W.heap.size → k ≠ fb → W'.heap[k]? = W.heap[k]?) (hfb : fb < N) (hN : N ≤ m0) (hm : m0 ≤ n) : FrI N fb m0 n A c L W' :=
  ⟨own_keep h.own fun k hA => hk k (h.lA k hA).2 (by have := (h.lA k hA).1; omega), fun x hx => by
    obtain ⟨b, e, hA, hown⟩ := h.row x hx
    refine ⟨b, e, hA, own_keep hown fun k hk2 => ?_⟩
    have := hown.lt k (by rw [own_ownA]; exact hk2)
    exact hk k this.2 (by omega), h.dist, fun x hx s hs2 => (h.sets x hx s hs2).step (fun k hp hl => hk k hl (by rcases hp with hp | hp <;> omega)) hs (fun k hp _ => hp)⟩
theorem FrI.only (h : FrI N fb m0 n A c L W) (ho : Only fb none W W') (hfb : fb < N) (hN : N ≤ m0) (hm : m0 ≤ n) : FrI N fb m0 n A c L W' := h.keep ho.size (fun k hl hn => ho.block k hl hn (by simp)) hfb hN hm
theorem FrI.below (h : FrI N fb m0 n A c L W) (hb : Below W.heap.size W W') (hfb : fb < N) (hN : N ≤ m0) (hm : m0 ≤ n) : FrI N fb m0 n A c L W' := h.keep hb.size (fun k hl _ => hb.block k hl) hfb hN hm
/-- what hangs on such blocks stays, too -/
theorem FrP.keep {G : World → Prop} (h : Dep (FrP N fb m0 A L) W G) (hs : W.heap.size ≤ W'.heap.size) (hk : ∀ k, k < W.heap.size → k ≠ fb → W'.heap[k]? = W.heap[k]?) (hfb : fb < N) (hN : N ≤ m0) : Dep (FrP N fb m0 A L) W' G :=
  h.step (fun k hp hl => hk k hl (by rcases hp with hp | hp <;> omega)) hs (fun k hp _ => hp)
/-- a row more: W the world ahead, W1 with the row in a block of its own, W3 behind the append of its header -/
theorem FrI.push {W1 W3 : World} {ob : Obj} {x : RowI} (h : FrI N fb m0 n A c L W) (hb : Below W.heap.size W W1) (hfb : fb < N) (hN : N ≤ m0) (hm : m0 ≤ n) (hnW : n ≤ W.heap.size)
    {b : Nat} (hx : x.1 = some ⟨b, 0, none⟩) (hbW : W.heap.size ≤ b) (hrow : W1.ownsRow n 26 1 (.slice x.1 x.2.2.length x.2.1) x.2.2.length (icells x.2.2))
    (hsets : ∀ s ∈ x.2.2, Dep (FrP N fb m0 A L) W (Lst s.1 s.2.2))
    (HO : W3.ownsRow n 25 1 (.slice A' (L.length + 1) c') (L.length + 1) (icells L ++ [ival x])) (HG : (W1.alloc ob).grownBy W3 (ownA A)) (HN : Newer (ownA A) (ownA A') (W1.heap.size + 1)) :
    FrI N fb m0 n A' c' (L ++ [x]) W3 ∧ ∀ G, Dep (FrP N fb m0 A L) W G → Dep (FrP N fb m0 A' (L ++ [x])) W3 G := by
  have hs1 := hb.size
  have hs3 : W1.heap.size + 1 ≤ W3.heap.size := by have := HG.size; simp at this; omega
  have hb1 : b < W1.heap.size := (hrow.lt b (by rw [own_ownA, hx]; rfl)).2
  have hold : ∀ k, k < W1.heap.size → ownA A ≠ some k → W3.heap[k]? = W1.heap[k]? := fun k hk hA => (HG.block k (by simp; omega) (fun e => hA e.symm)).trans (Below.heap_alloc _ _ _ hk)
  have hnew : ∀ k, k < W1.heap.size → ownA A' = some k → ownA A = some k := fun k hk he => by
    rcases HN with e | ⟨g, e, hg⟩
    · rw [← e]; exact he
    · rw [e] at he; injection he with he; omega
  have hxA : ownA x.1 = some b := by rw [hx]; rfl
  have hbA : ownA A ≠ some b := fun e => by have := (h.lA b e).2; omega
  have hP : ∀ k, FrP N fb m0 A L k → k < W.heap.size → FrP N fb m0 A' (L ++ [x]) k := fun k hp hl => by
    rcases hp with hp | ⟨h1, h2, h3⟩
    · exact .inl hp
    · refine .inr ⟨h1, fun e => h2 (hnew k (by omega) e), fun y hy e => ?_⟩
      rcases List.mem_append.1 hy with hy | hy
      · exact h3 y hy e
      · obtain rfl := List.mem_singleton.1 hy
        rw [hxA] at e; injection e with e; omega
  have hD : ∀ G, Dep (FrP N fb m0 A L) W G → Dep (FrP N fb m0 A' (L ++ [x])) W3 G := fun G hG => hG.step (fun k hp hl => (hold k (by omega) (by
    rcases hp with hp | hp
    · exact fun e => by have := (h.lA k e).1; omega
    · exact hp.2.1)).trans (hb.block k hl)) (by omega) hP
  refine ⟨⟨?_, fun y hy => ?_, ?_, fun y hy s hs => ?_⟩, hD⟩
  · have e : icells (L ++ [x]) = icells L ++ [ival x] := by simp [icells]
    rw [List.length_append, e]; exact HO
  · rcases List.mem_append.1 hy with hy | hy
    · obtain ⟨g, e, hA, hown⟩ := h.row y hy
      have hlt := hown.lt g (by rw [own_ownA, e]; rfl)
      refine ⟨g, e, fun e2 => hA (hnew g (by omega) e2), own_keep hown fun k hk => ?_⟩
      rw [e] at hk; injection hk with hk; simp only at hk; subst hk
      exact (hold _ (by omega) hA).trans (hb.block _ hlt.2)
    · obtain rfl := List.mem_singleton.1 hy
      refine ⟨b, hx, fun e => hbA (hnew b hb1 e), own_keep hrow fun k hk => ?_⟩
      rw [hxA] at hk; injection hk with hk; subst hk
      exact hold _ hb1 hbA
  · rw [List.map_append, List.nodup_append]
    refine ⟨h.dist, by simp, fun a ha d hd => ?_⟩
    obtain ⟨y, hy, rfl⟩ := List.mem_map.1 ha
    obtain ⟨g, _, e2, _, hg, _⟩ := h.rb hy
    have : d = ownA x.1 := by simpa using hd
    rw [this, hxA, e2]
    intro e; injection e with e; omega
  · rcases List.mem_append.1 hy with hy | hy
    · exact hD _ (h.sets y hy s hs)
    · obtain rfl := List.mem_singleton.1 hy
      exact hD _ (hsets s hs)
/-- the first set of one row in its place -/
theorem FrI.setHead {W5 : World} {i : Nat} {b cx : Nat} {s0 s' : Item Sp} {t : List (Item Sp)} (h : FrI N fb m0 n A c L W) (hb : Below W.heap.size W W5) (hfb : fb < N) (hN : N ≤ m0) (hm : m0 ≤ n) (hnW : n ≤ W.heap.size)
    (hi : L[i]? = some (some ⟨b, 0, none⟩, cx, s0 :: t)) (hs' : Dep (fun k => W.heap.size ≤ k) W5 (Lst s'.1 s'.2.2)) :
    FrI N fb m0 n A c (L.set i (some ⟨b, 0, none⟩, cx, s' :: t)) (W5.setCell ⟨b, 0, none⟩ (ival s')) ∧ ∀ G, Dep (FrP N fb m0 A L) W G → Dep (FrP N fb m0 A (L.set i (some ⟨b, 0, none⟩, cx, s' :: t))) (W5.setCell ⟨b, 0, none⟩ (ival s')) G := by
  have hiL := (List.getElem?_eq_some_iff.1 hi).1
  have hmem := List.mem_of_getElem? hi
  obtain ⟨b', hb', hbo, hnb, hbW, hAb⟩ := h.rb hmem
  simp only at hb' hbo
  injection hb' with hb'; injection hb' with hb'; subst hb'
  have hsz : (W5.setCell ⟨b, 0, none⟩ (ival s')).heap.size = W5.heap.size := by simp
  have hset : ∀ k, k ≠ b → (W5.setCell ⟨b, 0, none⟩ (ival s')).heap[k]? = W5.heap[k]? := fun k hk => heap_setCell_other _ _ _ _ hk
  have hold : ∀ k, k < W.heap.size → k ≠ b → (W5.setCell ⟨b, 0, none⟩ (ival s')).heap[k]? = W.heap[k]? := fun k hl hk => (hset k hk).trans (hb.block k hl)
  have hown : ∀ y ∈ L.set i (some ⟨b, 0, none⟩, cx, s' :: t), ∃ z ∈ L, ownA y.1 = ownA z.1 := fun y hy => by
    rcases List.mem_or_eq_of_mem_set hy with hy | rfl
    · exact ⟨y, hy, rfl⟩
    · exact ⟨_, hmem, rfl⟩
  have hmapo : (L.set i (some ⟨b, 0, none⟩, cx, s' :: t)).map (fun x => ownA x.1) = L.map fun x => ownA x.1 := by
    rw [List.map_set]
    apply List.ext_getElem?
    intro j
    rw [List.getElem?_set]
    by_cases hj : i = j
    · subst hj
      rw [if_pos rfl, List.getElem?_map, hi]
      simp [hiL]
    · rw [if_neg hj]
  have hP : ∀ k, FrP N fb m0 A L k → FrP N fb m0 A (L.set i (some ⟨b, 0, none⟩, cx, s' :: t)) k := fun k hp => by
    rcases hp with hp | ⟨h1, h2, h3⟩
    · exact .inl hp
    · refine .inr ⟨h1, h2, fun y hy e => ?_⟩
      obtain ⟨z, hz, ez⟩ := hown y hy
      exact h3 z hz (by rw [← ez]; exact e)
  have hPb : ∀ k, FrP N fb m0 A L k → k ≠ b := fun k hp e => by
    rcases hp with hp | hp
    · omega
    · exact hp.2.2 _ hmem (by rw [hbo, e])
  have hD : ∀ G, Dep (FrP N fb m0 A L) W G → Dep (FrP N fb m0 A (L.set i (some ⟨b, 0, none⟩, cx, s' :: t))) (W5.setCell ⟨b, 0, none⟩ (ival s')) G := fun G hG => hG.step (fun k hp hl => hold k hl (hPb k hp)) (by rw [hsz]; exact hb.size) (fun k hp _ => hP k hp)
  refine ⟨⟨?_, fun y hy => ?_, by rw [hmapo]; exact h.dist, fun y hy s hs => ?_⟩, hD⟩
  · rw [List.length_set]
    have e : icells (L.set i (some ⟨b, 0, none⟩, cx, s' :: t)) = icells L := by
      rw [← icells_set]
      apply List.ext_getElem?
      intro j
      rw [List.getElem?_set]
      by_cases hj : i = j
      · subst hj
        rw [if_pos rfl, icells_at hi]
        simp [icells_length, hiL]
      · rw [if_neg hj]
    rw [e]
    exact own_keep h.own fun k hA => hold k (h.lA k hA).2 (fun e => hAb (e ▸ hA))
  · rcases List.mem_or_eq_of_mem_set hy with hy2 | rfl
    · by_cases hyb : ownA y.1 = some b
      · -- the row itself is in the list still only if it is in its place elsewhere: blocks are distinct
        obtain ⟨j, hj⟩ := List.getElem?_of_mem hy
        rw [List.getElem?_set] at hj
        by_cases hij : i = j
        · subst hij
          rw [if_pos rfl, if_pos hiL] at hj
          injection hj with hj
          subst hj
          obtain ⟨g, e, hA, hrow⟩ := h.row _ hmem
          refine ⟨b, rfl, hAb, ?_⟩
          have hr5 : W5.ownsRow n 26 1 (.slice (some ⟨b, 0, none⟩) (s0 :: t).length cx) (s0 :: t).length (icells (s0 :: t)) := own_keep hrow fun k hk => by injection hk with hk; simp only at hk; subst hk; exact hb.block _ hbW
          exact ownsRow_set0 hr5
        · rw [if_neg hij] at hj
          have := List.getElem?_map (f := fun x : RowI => ownA x.1) (l := L) (i := i)
          exact absurd (nodup_at h.dist (i := i) (j := j) (v := some b) (by rw [List.getElem?_map, hi]; rfl) (by rw [List.getElem?_map, hj]; simp [hyb])) hij
      · obtain ⟨g, e, hA, hrow⟩ := h.row y hy2
        have hlt := hrow.lt g (by rw [own_ownA, e]; rfl)
        refine ⟨g, e, hA, own_keep hrow fun k hk => ?_⟩
        rw [e] at hk; injection hk with hk; simp only at hk; subst hk
        exact hold _ hlt.2 (fun e2 => hyb (by rw [e, e2]; rfl))
    · obtain ⟨g, e, hA, hrow⟩ := h.row _ hmem
      refine ⟨b, rfl, hAb, ?_⟩
      have hr5 : W5.ownsRow n 26 1 (.slice (some ⟨b, 0, none⟩) (s0 :: t).length cx) (s0 :: t).length (icells (s0 :: t)) := own_keep hrow fun k hk => by injection hk with hk; simp only at hk; subst hk; exact hb.block _ hbW
      exact ownsRow_set0 hr5
  · rcases List.mem_or_eq_of_mem_set hy with hy2 | rfl
    · exact hD _ (h.sets y hy2 s hs)
    · rcases List.mem_cons.1 hs with rfl | hs
      · exact hs'.step (fun k hp hl => hset k (by omega)) (by rw [hsz]; exact Nat.le_refl _) (fun k hp hl => .inr ⟨by omega, fun e => by have := (h.lA k e).2; omega, fun y hy e => by
          obtain ⟨z, hz, ez⟩ := hown y hy
          obtain ⟨g, _, hg2, _, hg4, _⟩ := h.rb hz
          rw [ez, hg2] at e; injection e with e; omega⟩)
      · exact hD _ (h.sets _ hmem s (List.mem_cons_of_mem _ hs))
/-- the rows are done -/
theorem FrI.rows (h : FrI N fb m0 n A c L W) (hN : N ≤ m0) (hm : m0 ≤ n) (hl : L.length ≤ 9223372036854775807) (hr : ∀ x ∈ L, x.2.2.length ≤ 9223372036854775807) : Dep (fun k => (k < N ∧ k ≠ fb) ∨ m0 ≤ k) W (RowsX A L) := fun V hV =>
  ⟨⟨Sl.of_own (own_keep h.own fun k hA => hV k (.inr (by have := (h.lA k hA).1; omega)) (h.lA k hA).2), fun x hx => by
    obtain ⟨b, e, hA, hrow⟩ := h.row x hx
    refine ⟨⟨Sl.of_own (own_keep hrow fun k hk => ?_), fun s hs => ?_⟩, hr x hx⟩
    · have := hrow.lt k (by rw [own_ownA]; exact hk)
      exact hV k (.inr (by omega)) this.2
    · exact h.sets x hx s hs V fun k hp hk => hV k (by
        rcases hp with hp | hp
        · exact .inl hp
        · exact .inr hp.1) hk⟩, hl⟩
end
end Go.Proofs.Ytpmhdjiacgckjaa
end
