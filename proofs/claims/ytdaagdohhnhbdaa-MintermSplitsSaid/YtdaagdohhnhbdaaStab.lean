/- Plain facts on sorting in place by swaps, stably: what is sorted by key and by place is the only such arrangement. No program in sight. Condition: none. -/
import Derived.Test.YtdaagdohhnhbdaaBase
namespace Go.Proofs.Ytdaagdohhnhbdaa
set_option linter.unusedVariables false

/-- an element: a slice that isn't empty, the key that it is sorted by, the place that it had -/
structure KV where
  b : Nat
  off : Nat
  n : Nat
  c : Nat
  key : Int
  ix : Nat
deriving DecidableEq
namespace KV
def lt (x y : KV) : Prop := x.key < y.key ∨ (x.key = y.key ∧ x.ix < y.ix)
theorem lt_trans {x y z : KV} (h : lt x y) (k : lt y z) : lt x z := by unfold lt at *; omega
theorem lt_irrefl (x : KV) : ¬ lt x x := by unfold lt; omega
theorem lt_asymm {x y : KV} (h : lt x y) : ¬ lt y x := by unfold lt at *; omega
end KV
/-- sorted between two places -/
def SrtB (xs : List KV) (a b : Nat) : Prop := ∀ i j x y, a ≤ i → i < j → j < b → xs[i]? = some x → xs[j]? = some y → KV.lt x y
/-- the places that the elements had rise -/
def IxB (xs : List KV) (a b : Nat) : Prop := ∀ i j x y, a ≤ i → i < j → j < b → xs[i]? = some x → xs[j]? = some y → x.ix < y.ix
/-- moved about between two places -/
structure Rch (a b : Nat) (xs ys : List KV) : Prop where
  len : ys.length = xs.length
  perm : ys.Perm xs
  out : ∀ j, (j < a ∨ b ≤ j) → ys[j]? = xs[j]?
  from_ : ∀ j, a ≤ j → j < b → j < xs.length → ∃ i, a ≤ i ∧ i < b ∧ i < xs.length ∧ ys[j]? = xs[i]?
theorem Rch.refl (a b : Nat) (xs : List KV) : Rch a b xs xs := ⟨rfl, List.Perm.refl _, fun _ _ => rfl, fun j h1 h2 h3 => ⟨j, h1, h2, h3, rfl⟩⟩
theorem Rch.trans {a b : Nat} {xs ys zs : List KV} (h : Rch a b xs ys) (k : Rch a b ys zs) : Rch a b xs zs := by
  refine ⟨k.len.trans h.len, k.perm.trans h.perm, fun j hj => (k.out j hj).trans (h.out j hj), fun j h1 h2 h3 => ?_⟩
  obtain ⟨i, i1, i2, i3, e⟩ := k.from_ j h1 h2 (by rw [h.len]; exact h3)
  obtain ⟨i', j1, j2, j3, e'⟩ := h.from_ i i1 i2 (by rw [← h.len]; exact i3)
  exact ⟨i', j1, j2, j3, e.trans e'⟩
theorem Rch.mono {a b a' b' : Nat} {xs ys : List KV} (h : Rch a b xs ys) (ha : a' ≤ a) (hb : b ≤ b') : Rch a' b' xs ys := by
  refine ⟨h.len, h.perm, fun j hj => h.out j (by omega), fun j h1 h2 h3 => ?_⟩
  by_cases hj : a ≤ j ∧ j < b
  · obtain ⟨i, i1, i2, i3, e⟩ := h.from_ j hj.1 hj.2 h3
    exact ⟨i, by omega, by omega, i3, e⟩
  · exact ⟨j, h1, h2, h3, h.out j (by omega)⟩
/-- two elements change places -/
def swapL (xs : List KV) (i j : Nat) (x y : KV) : List KV := (xs.set i y).set j x
theorem swapL_get {xs : List KV} {i j : Nat} {x y : KV} (hi : i < xs.length) (hj : j < xs.length) (hij : i ≠ j) (p : Nat) :
    (swapL xs i j x y)[p]? = if p = j then some x else if p = i then some y else xs[p]? := by
  unfold swapL
  rw [List.getElem?_set, List.getElem?_set]
  by_cases h1 : p = j
  · subst h1; simp [hj]
  · by_cases h2 : p = i
    · subst h2; simp [h1, Ne.symm h1, hi]
    · simp [h1, h2, Ne.symm h1, Ne.symm h2]
theorem swapL_perm {xs : List KV} {i j : Nat} {x y : KV} (hi : xs[i]? = some x) (hj : xs[j]? = some y) : (swapL xs i j x y).Perm xs := by
  obtain ⟨hi', rfl⟩ := List.getElem?_eq_some_iff.1 hi
  obtain ⟨hj', rfl⟩ := List.getElem?_eq_some_iff.1 hj
  have h := Array.swap_perm (xs := xs.toArray) (i := i) (j := j) (by simpa using hi') (by simpa using hj')
  have e : (xs.toArray.swap i j (by simpa using hi') (by simpa using hj')) = (swapL xs i j xs[i] xs[j]).toArray := by
    simp [Array.swap, swapL]
  rw [e] at h
  simpa [Array.perm_iff_toList_perm] using h
theorem Rch.swap {a b i j : Nat} {xs : List KV} {x y : KV} (hi : xs[i]? = some x) (hj : xs[j]? = some y) (hij : i ≠ j) (h1 : a ≤ i) (h2 : i < b) (h3 : a ≤ j) (h4 : j < b) : Rch a b xs (swapL xs i j x y) := by
  have hi' := (List.getElem?_eq_some_iff.1 hi).1
  have hj' := (List.getElem?_eq_some_iff.1 hj).1
  refine ⟨by simp [swapL], swapL_perm hi hj, fun p hp => ?_, fun p p1 p2 p3 => ?_⟩
  · rw [swapL_get hi' hj' hij, if_neg (by omega), if_neg (by omega)]
  · rw [swapL_get hi' hj' hij]
    by_cases e1 : p = j
    · rw [if_pos e1]; exact ⟨i, h1, h2, hi', hi.symm⟩
    · rw [if_neg e1]
      by_cases e2 : p = i
      · rw [if_pos e2]; exact ⟨j, h3, h4, hj', hj.symm⟩
      · rw [if_neg e2]; exact ⟨p, p1, p2, p3, rfl⟩
theorem get_of_lt {xs : List KV} {i : Nat} (h : i < xs.length) : ∃ x, xs[i]? = some x := ⟨xs[i], List.getElem?_eq_getElem h⟩
/-- what holds of all elements between two places holds behind moves between them -/
theorem Rch.all {a b : Nat} {xs ys : List KV} (h : Rch a b xs ys) {P : KV → Prop} (hP : ∀ j x, a ≤ j → j < b → xs[j]? = some x → P x) : ∀ j x, a ≤ j → j < b → ys[j]? = some x → P x := by
  intro j x h1 h2 hx
  have hl := (List.getElem?_eq_some_iff.1 hx).1
  obtain ⟨i, i1, i2, i3, e⟩ := h.from_ j h1 h2 (by rw [← h.len]; exact hl)
  exact hP i x i1 i2 (e ▸ hx)
theorem SrtB.out {a b c d : Nat} {xs ys : List KV} (h : SrtB xs c d) (hr : Rch a b xs ys) (hd : d ≤ a ∨ b ≤ c) : SrtB ys c d := by
  intro i j x y h1 h2 h3 hx hy
  rw [hr.out i (by omega)] at hx
  rw [hr.out j (by omega)] at hy
  exact h i j x y h1 h2 h3 hx hy
/-- two sorted stretches, the first below the second -/
theorem SrtB.join {a m b : Nat} {xs : List KV} (h : SrtB xs a m) (k : SrtB xs m b) (hx : ∀ i j x y, a ≤ i → i < m → m ≤ j → j < b → xs[i]? = some x → xs[j]? = some y → KV.lt x y) : SrtB xs a b := by
  intro i j x y h1 h2 h3 e1 e2
  by_cases hj : j < m
  · exact h i j x y h1 h2 hj e1 e2
  · by_cases hi : i < m
    · exact hx i j x y h1 hi (by omega) h3 e1 e2
    · exact k i j x y (by omega) h2 h3 e1 e2
theorem SrtB.le {a b i j : Nat} {xs : List KV} {x y : KV} (h : SrtB xs a b) (h1 : a ≤ i) (h2 : i ≤ j) (h3 : j < b) (hx : xs[i]? = some x) (hy : xs[j]? = some y) : x.key ≤ y.key := by
  by_cases e : i = j
  · subst e; rw [hx] at hy; injection hy with hy; subst hy; exact Int.le_refl _
  · have := h i j x y h1 (by omega) h3 hx hy
    unfold KV.lt at this; omega
/-- there is only one -/
theorem srt_unique {xs ys : List KV} (hp : ys.Perm xs) (h1 : SrtB xs 0 xs.length) (h2 : SrtB ys 0 ys.length) : ys = xs := by
  have pw : ∀ l : List KV, SrtB l 0 l.length → l.Pairwise KV.lt := by
    intro l h
    rw [List.pairwise_iff_getElem]
    intro i j hi hj hij
    exact h i j _ _ (Nat.zero_le _) hij hj (List.getElem?_eq_getElem hi) (List.getElem?_eq_getElem hj)
  have a1 := pw xs h1
  have a2 := pw ys h2
  clear h1 h2 pw
  induction ys generalizing xs with
  | nil => exact (List.perm_nil.1 hp.symm).symm
  | cons y ys ih =>
    cases xs with
    | nil => exact absurd hp.length_eq (by simp)
    | cons x xs =>
      have e : y = x := by
        have m1 : y ∈ x :: xs := hp.mem_iff.1 (by simp)
        have m2 : x ∈ y :: ys := hp.mem_iff.2 (by simp)
        rcases List.mem_cons.1 m1 with e | m1
        · exact e
        · rcases List.mem_cons.1 m2 with e | m2
          · exact e.symm
          · exact absurd ((List.pairwise_cons.1 a1).1 y m1) (KV.lt_asymm ((List.pairwise_cons.1 a2).1 x m2))
      subst e
      rw [ih (List.perm_cons y |>.1 hp) (List.pairwise_cons.1 a1).2 (List.pairwise_cons.1 a2).2]

/-! insertion -/
/-- the first i places are sorted, what is behind them is as it was -/
def InsO (a b : Nat) (xs0 xs : List KV) (i : Nat) : Prop := Rch a b xs0 xs ∧ SrtB xs a i ∧ (∀ j, i ≤ j → xs[j]? = xs0[j]?) ∧ (∀ j x y, a ≤ j → j < i → xs[j]? = some x → ∀ q, i ≤ q → q < b → xs0[q]? = some y → x.ix < y.ix)
/-- the i-th element on its way down at j -/
def InsI (a b : Nat) (xs0 xs : List KV) (i j : Nat) : Prop := Rch a b xs0 xs ∧ a ≤ j ∧ j ≤ i ∧ (∀ p, i < p → xs[p]? = xs0[p]?) ∧ xs[j]? = xs0[i]? ∧
  (∀ p q x y, a ≤ p → p < q → q ≤ i → p ≠ j → q ≠ j → xs[p]? = some x → xs[q]? = some y → KV.lt x y) ∧ (∀ q x y, j < q → q ≤ i → xs[j]? = some x → xs[q]? = some y → KV.lt x y) ∧
  (∀ p x y, a ≤ p → p ≤ i → p ≠ j → xs[p]? = some x → ∀ q, i ≤ q → q < b → xs0[q]? = some y → x.ix < y.ix)
theorem InsO.start {a b : Nat} {xs : List KV} (hix : IxB xs a b) (i : Nat) (hi : i ≤ a + 1) : InsO a b xs xs i := by
  refine ⟨Rch.refl _ _ _, fun p q x y h1 h2 h3 _ _ => by omega, fun _ _ => rfl, fun j x y h1 h2 hx q h3 h4 hy => hix j q x y h1 (by omega) h4 hx hy⟩
theorem InsO.go {a b i : Nat} {xs0 xs : List KV} (h : InsO a b xs0 xs i) (ha : a ≤ i) : InsI a b xs0 xs i i := by
  obtain ⟨h1, h2, h3, h4⟩ := h
  refine ⟨h1, ha, Nat.le_refl _, fun p hp => h3 p (by omega), h3 i (Nat.le_refl _), fun p q x y p1 p2 p3 p4 p5 hx hy => h2 p q x y p1 p2 (by omega) hx hy, fun q x y q1 q2 => by omega, fun p x y p1 p2 p3 hx q q1 q2 hy => h4 p x y p1 (by omega) hx q q1 q2 hy⟩
theorem InsI.down {a b i j : Nat} {xs0 xs : List KV} {x y : KV} (h : InsI a b xs0 xs i j) (hi : i < b) (hj : a < j) (hx : xs[j]? = some x) (hy : xs[j - 1]? = some y) (hlt : x.key < y.key) : InsI a b xs0 (swapL xs j (j - 1) x y) i (j - 1) := by
  obtain ⟨h1, h2, h3, h4, h5, h6, h7, h8⟩ := h
  have lx := (List.getElem?_eq_some_iff.1 hx).1
  have ly := (List.getElem?_eq_some_iff.1 hy).1
  have G := swapL_get (x := x) (y := y) lx ly (show j ≠ j - 1 by omega)
  refine ⟨h1.trans (Rch.swap hx hy (by omega) (by omega) (by omega) (by omega) (by omega)), by omega, by omega, fun p hp => ?_, ?_, ?_, ?_, ?_⟩
  · rw [G, if_neg (by omega), if_neg (by omega)]; exact h4 p hp
  · rw [G, if_pos rfl, ← h5, hx]
  · intro p q u v p1 p2 p3 p4 p5 hu hv
    rw [G, if_neg p4] at hu
    rw [G, if_neg p5] at hv
    by_cases e1 : q = j
    · subst e1
      rw [if_pos rfl] at hv; injection hv with hv; subst hv
      rw [if_neg (by omega)] at hu
      exact h6 p (q - 1) u y p1 (by omega) (by omega) (by omega) (by omega) hu hy
    · rw [if_neg e1] at hv
      by_cases e2 : p = j
      · subst e2
        rw [if_pos rfl] at hu; injection hu with hu; subst hu
        exact h6 (p - 1) q y v (by omega) (by omega) p3 (by omega) e1 hy hv
      · rw [if_neg e2] at hu
        exact h6 p q u v p1 p2 p3 e2 e1 hu hv
  · intro q u v q1 q2 hu hv
    rw [G, if_pos rfl] at hu; injection hu with hu; subst hu
    rw [G, if_neg (by omega)] at hv
    by_cases e1 : q = j
    · rw [if_pos e1] at hv; injection hv with hv; subst hv; exact .inl hlt
    · rw [if_neg e1] at hv
      exact h7 q x v (by omega) q2 hx hv
  · intro p u v p1 p2 p3 hu q q1 q2 hv
    rw [G, if_neg p3] at hu
    by_cases e1 : p = j
    · rw [if_pos e1] at hu; injection hu with hu; subst hu
      exact h8 (j - 1) y v (by omega) (by omega) (by omega) hy q q1 q2 hv
    · rw [if_neg e1] at hu
      exact h8 p u v p1 p2 e1 hu q q1 q2 hv
theorem InsI.done {a b i j : Nat} {xs0 xs : List KV} (hix : IxB xs0 a b) (h : InsI a b xs0 xs i j) (hi : i < b) (hs : j = a ∨ ∃ x y, xs[j]? = some x ∧ xs[j - 1]? = some y ∧ ¬ x.key < y.key) : InsO a b xs0 xs (i + 1) := by
  obtain ⟨h1, h2, h3, h4, h5, h6, h7, h8⟩ := h
  refine ⟨h1, fun p q u v p1 p2 p3 hu hv => ?_, fun p hp => h4 p (by omega), fun p u v p1 p2 hu q q1 q2 hv => ?_⟩
  · by_cases e1 : p = j
    · subst e1; exact h7 q u v p2 (by omega) hu hv
    · by_cases e2 : q = j
      · subst e2
        rcases hs with hs | ⟨x, y, hx, hy, hn⟩
        · omega
        · rw [hx] at hv; injection hv with hv; subst hv
          have hxy : KV.lt y x := by
            have hxi : xs0[i]? = some x := by rw [← h5]; exact hx
            have := h8 (q - 1) y x (by omega) (by omega) (by omega) hy i (Nat.le_refl _) hi hxi
            unfold KV.lt; omega
          by_cases e3 : p = q - 1
          · subst e3; rw [hy] at hu; injection hu with hu; subst hu; exact hxy
          · exact KV.lt_trans (h6 p (q - 1) u y p1 (by omega) (by omega) e1 (by omega) hu hy) hxy
      · exact h6 p q u v p1 p2 (by omega) e1 e2 hu hv
  · by_cases e1 : p = j
    · subst e1
      rw [h5] at hu
      exact hix i q u v (by omega) (by omega) q2 hu hv
    · exact h8 p u v p1 (by omega) e1 hu q (by omega) q2 hv
end Go.Proofs.Ytdaagdohhnhbdaa
