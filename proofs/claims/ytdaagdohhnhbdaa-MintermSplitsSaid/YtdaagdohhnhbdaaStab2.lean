/- Plain facts on merging in place: ranges that change places, a stretch turned round, two sorted stretches made one. No program in sight. Condition: none. -/
import Derived.Test.YtdaagdohhnhbdaaStab
namespace Go.Proofs.Ytdaagdohhnhbdaa
set_option linter.unusedVariables false

/-- two ranges, of which the first k elements have changed places -/
def SwI (xs ys : List KV) (a b k : Nat) : Prop := ∀ p, ys[p]? = if a ≤ p ∧ p < a + k then xs[p - a + b]? else if b ≤ p ∧ p < b + k then xs[p - b + a]? else xs[p]?
theorem SwI.start (xs : List KV) (a b : Nat) : SwI xs xs a b 0 := fun p => by rw [if_neg (by omega), if_neg (by omega)]
theorem SwI.next {xs ys : List KV} {a b k : Nat} {x y : KV} (h : SwI xs ys a b k) (hab : a + k < b) (hx : ys[a + k]? = some x) (hy : ys[b + k]? = some y) : SwI xs (swapL ys (a + k) (b + k) x y) a b (k + 1) := by
  have lx := (List.getElem?_eq_some_iff.1 hx).1
  have ly := (List.getElem?_eq_some_iff.1 hy).1
  have gx := h (a + k)
  have gy := h (b + k)
  rw [if_neg (by omega), if_neg (by omega)] at gx gy
  intro p
  rw [swapL_get lx ly (by omega)]
  by_cases e1 : p = b + k
  · subst e1
    rw [if_pos rfl, if_neg (by omega), if_pos (by omega), show b + k - b + a = a + k by omega, ← gx, hx]
  · rw [if_neg e1]
    by_cases e2 : p = a + k
    · subst e2
      rw [if_pos rfl, if_pos (by omega), show a + k - a + b = b + k by omega, ← gy, hy]
    · rw [if_neg e2, h p]
      by_cases c1 : a ≤ p ∧ p < a + k
      · rw [if_pos c1, if_pos (by omega)]
      · rw [if_neg c1, if_neg (show ¬ (a ≤ p ∧ p < a + (k + 1)) by omega)]
        by_cases c2 : b ≤ p ∧ p < b + k
        · rw [if_pos c2, if_pos (show b ≤ p ∧ p < b + (k + 1) by omega)]
        · rw [if_neg c2, if_neg (show ¬ (b ≤ p ∧ p < b + (k + 1)) by omega)]

/-- a stretch turned round -/
def RotT (xs : List KV) (a m b p : Nat) : Option KV := if p < a then xs[p]? else if p < a + (b - m) then xs[p - a + m]? else if p < b then xs[p - (b - m)]? else xs[p]?
/-- .. on the way -/
def RotS (T : Nat → Option KV) (cur : List KV) (m i j : Nat) : Prop := i ≤ m ∧ (∀ p, (p < m - i ∨ m + j ≤ p) → cur[p]? = T p) ∧ (∀ p, m - i ≤ p → p < m → cur[p]? = T (p + j)) ∧ (∀ p, m ≤ p → p < m + j → cur[p]? = T (p - i))
theorem RotS.start {xs : List KV} {a m b : Nat} (h1 : a ≤ m) (h2 : m ≤ b) : RotS (RotT xs a m b) xs m (m - a) (b - m) := by
  refine ⟨by omega, fun p hp => ?_, fun p h3 h4 => ?_, fun p h3 h4 => ?_⟩
  · unfold RotT
    rcases hp with hp | hp
    · rw [if_pos (by omega)]
    · rw [if_neg (by omega), if_neg (by omega), if_neg (by omega)]
  · unfold RotT
    rw [if_neg (by omega), if_neg (by omega), if_pos (by omega), show p + (b - m) - (b - m) = p by omega]
  · unfold RotT
    rw [if_neg (by omega), if_pos (by omega), show p - (m - a) - a + m = p by omega]
theorem RotS.left {T : Nat → Option KV} {cur ys : List KV} {m i j : Nat} (h : RotS T cur m i j) (hij : j < i) (hs : SwI cur ys (m - i) m j) : RotS T ys m (i - j) j := by
  obtain ⟨h0, h1, h2, h3⟩ := h
  refine ⟨by omega, fun p hp => ?_, fun p g1 g2 => ?_, fun p g1 g2 => ?_⟩
  · rw [hs p]
    by_cases c1 : m - i ≤ p ∧ p < m - i + j
    · rw [if_pos c1, h3 _ (by omega) (by omega)]; congr 1; omega
    · rw [if_neg c1, if_neg (by omega)]; exact h1 p (by omega)
  · rw [hs p, if_neg (by omega), if_neg (by omega)]; exact h2 p (by omega) g2
  · rw [hs p, if_neg (by omega), if_pos (by omega), h2 _ (by omega) (by omega)]; congr 1; omega
theorem RotS.right {T : Nat → Option KV} {cur ys : List KV} {m i j : Nat} (h : RotS T cur m i j) (hij : i < j) (hs : SwI cur ys (m - i) (m + j - i) i) : RotS T ys m i (j - i) := by
  obtain ⟨h0, h1, h2, h3⟩ := h
  refine ⟨h0, fun p hp => ?_, fun p g1 g2 => ?_, fun p g1 g2 => ?_⟩
  · rw [hs p]
    by_cases c1 : m - i ≤ p ∧ p < m - i + i
    · omega
    · rw [if_neg c1]
      by_cases c2 : m + j - i ≤ p ∧ p < m + j - i + i
      · rw [if_pos c2, h2 _ (by omega) (by omega)]; congr 1; omega
      · rw [if_neg c2]; exact h1 p (by omega)
  · rw [hs p, if_pos (by omega), h3 _ (by omega) (by omega)]; congr 1; omega
  · rw [hs p, if_neg (by omega), if_neg (by omega)]; exact h3 p g1 (by omega)
theorem RotS.done {T : Nat → Option KV} {cur ys : List KV} {m i : Nat} (h : RotS T cur m i i) (hs : SwI cur ys (m - i) m i) (p : Nat) : ys[p]? = T p := by
  obtain ⟨h0, h1, h2, h3⟩ := h
  rw [hs p]
  by_cases c1 : m - i ≤ p ∧ p < m - i + i
  · rw [if_pos c1, h3 _ (by omega) (by omega)]; congr 1; omega
  · rw [if_neg c1]
    by_cases c2 : m ≤ p ∧ p < m + i
    · rw [if_pos c2, h2 _ (by omega) (by omega)]; congr 1; omega
    · rw [if_neg c2]; exact h1 p (by omega)
theorem rot_same {xs : List KV} {a m b : Nat} (h : a = m ∨ m = b) (h1 : a ≤ m) (h2 : m ≤ b) (p : Nat) : xs[p]? = RotT xs a m b p := by
  unfold RotT
  by_cases c1 : p < a
  · rw [if_pos c1]
  · rw [if_neg c1]
    by_cases c2 : p < a + (b - m)
    · rw [if_pos c2]; congr 1; omega
    · rw [if_neg c2]
      by_cases c3 : p < b
      · rw [if_pos c3]; congr 1; omega
      · rw [if_neg c3]

/-- the elements of a first stretch stood ahead of those of a second one -/
def IxX (xs : List KV) (a m b : Nat) : Prop := ∀ i j x y, a ≤ i → i < m → m ≤ j → j < b → xs[i]? = some x → xs[j]? = some y → x.ix < y.ix
/-- where two sorted stretches are parted so that two halves come about -/
def Cut (xs : List KV) (a m b mid s : Nat) : Prop := a ≤ s ∧ s ≤ m ∧ s ≤ mid ∧ mid + m - s ≤ b ∧ m ≤ mid + m - s ∧
  (∀ u v x y, a ≤ u → u < s → mid + m - s ≤ v → v < b → xs[u]? = some x → xs[v]? = some y → x.key ≤ y.key) ∧
  (∀ u v x y, s ≤ u → u < m → m ≤ v → v < mid + m - s → xs[u]? = some x → xs[v]? = some y → y.key < x.key)
theorem Cut.get {xs ys : List KV} {a m b mid s : Nat} (h : Cut xs a m b mid s) (hy : ∀ p, ys[p]? = RotT xs s m (mid + m - s) p) :
    (∀ p, p < s → ys[p]? = xs[p]?) ∧ (∀ p, s ≤ p → p < mid → ys[p]? = xs[p - s + m]?) ∧ (∀ p, mid ≤ p → p < mid + m - s → ys[p]? = xs[p - (mid - s)]?) ∧ (∀ p, mid + m - s ≤ p → ys[p]? = xs[p]?) := by
  obtain ⟨h1, h2, h3, h4, h5, _, _⟩ := h
  refine ⟨fun p g => ?_, fun p g g' => ?_, fun p g g' => ?_, fun p g => ?_⟩
  · rw [hy, RotT, if_pos g]
  · rw [hy, RotT, if_neg (by omega), if_pos (by omega)]
  · rw [hy, RotT, if_neg (by omega), if_neg (by omega), if_pos (by omega)]; congr 1; omega
  · rw [hy, RotT, if_neg (by omega), if_neg (by omega), if_neg (by omega)]
/-- what the two halves are -/
theorem Cut.halves {xs ys : List KV} {a m b mid s : Nat} (h : Cut xs a m b mid s) (h1 : SrtB xs a m) (h2 : SrtB xs m b) (hx : IxX xs a m b) (hy : ∀ p, ys[p]? = RotT xs s m (mid + m - s) p) :
    SrtB ys a s ∧ SrtB ys s mid ∧ IxX ys a s mid ∧ SrtB ys mid (mid + m - s) ∧ SrtB ys (mid + m - s) b ∧ IxX ys mid (mid + m - s) b ∧
    (∀ i j x y, a ≤ i → i < mid → mid ≤ j → j < b → ys[i]? = some x → ys[j]? = some y → KV.lt x y) := by
  obtain ⟨G1, G2, G3, G4⟩ := h.get hy
  obtain ⟨c1, c2, c3, c4, c5, K1, K2⟩ := h
  refine ⟨?_, ?_, ?_, ?_, ?_, ?_, ?_⟩
  · intro i j x y g1 g2 g3 e1 e2
    rw [G1 i (by omega)] at e1; rw [G1 j g3] at e2
    exact h1 i j x y g1 g2 (by omega) e1 e2
  · intro i j x y g1 g2 g3 e1 e2
    rw [G2 i g1 (by omega)] at e1; rw [G2 j (by omega) g3] at e2
    exact h2 _ _ x y (by omega) (by omega) (by omega) e1 e2
  · intro i j x y g1 g2 g3 g4 e1 e2
    rw [G1 i g2] at e1; rw [G2 j g3 g4] at e2
    exact hx _ _ x y g1 (by omega) (by omega) (by omega) e1 e2
  · intro i j x y g1 g2 g3 e1 e2
    rw [G3 i g1 (by omega)] at e1; rw [G3 j (by omega) g3] at e2
    exact h1 _ _ x y (by omega) (by omega) (by omega) e1 e2
  · intro i j x y g1 g2 g3 e1 e2
    rw [G4 i g1] at e1; rw [G4 j (by omega)] at e2
    exact h2 _ _ x y (by omega) (by omega) (by omega) e1 e2
  · intro i j x y g1 g2 g3 g4 e1 e2
    rw [G3 i g1 g2] at e1; rw [G4 j g3] at e2
    exact hx _ _ x y (by omega) (by omega) (by omega) g4 e1 e2
  · intro i j x y g1 g2 g3 g4 e1 e2
    by_cases d1 : i < s
    · rw [G1 i d1] at e1
      by_cases d2 : j < mid + m - s
      · rw [G3 j g3 d2] at e2
        exact h1 _ _ x y g1 (by omega) (by omega) e1 e2
      · rw [G4 j (by omega)] at e2
        have k1 := K1 i j x y g1 d1 (by omega) g4 e1 e2
        have k2 := hx i j x y g1 (by omega) (by omega) g4 e1 e2
        unfold KV.lt; omega
    · rw [G2 i (by omega) g2] at e1
      by_cases d2 : j < mid + m - s
      · rw [G3 j g3 d2] at e2
        exact .inl (K2 _ _ y x (by omega) (by omega) (by omega) (by omega) e2 e1)
      · rw [G4 j (by omega)] at e2
        exact h2 _ _ x y (by omega) (by omega) (by omega) e1 e2
theorem Rch.ixx {a b c d m : Nat} {xs ys : List KV} (h : IxX xs a m b) (hr : Rch c d xs ys) (ho : d ≤ a ∨ b ≤ c) : IxX ys a m b := by
  intro i j x y g1 g2 g3 g4 e1 e2
  rw [hr.out i (by omega)] at e1
  rw [hr.out j (by omega)] at e2
  exact h i j x y g1 g2 g3 g4 e1 e2
/-- both halves made one -/
theorem halves_join {ys zs us : List KV} {a mid b : Nat} (hx : ∀ i j x y, a ≤ i → i < mid → mid ≤ j → j < b → ys[i]? = some x → ys[j]? = some y → KV.lt x y)
    (r1 : Rch a mid ys zs) (r2 : Rch mid b zs us) (s1 : SrtB zs a mid) (s2 : SrtB us mid b) : SrtB us a b := by
  refine SrtB.join (s1.out r2 (.inl (Nat.le_refl _))) s2 ?_
  intro i j x y g1 g2 g3 g4 e1 e2
  rw [r2.out i (.inl g2)] at e1
  refine r1.all (P := fun x => KV.lt x y) (fun i' x' h1 h2 hx' => ?_) i x g1 g2 e1
  refine r2.all (P := fun y => KV.lt x' y) (fun j' y' h3 h4 hy' => ?_) j y g3 g4 e2
  rw [r1.out j' (.inr h3)] at hy'
  exact hx i' j' x' y' h1 h2 h3 h4 hx' hy'

/-! searches -/
def B1 (xs : List KV) (m b : Nat) (k : Int) (i j : Nat) : Prop := m ≤ i ∧ i ≤ j ∧ j ≤ b ∧ (∀ q y, m ≤ q → q < i → xs[q]? = some y → y.key < k) ∧ (∀ q y, j ≤ q → q < b → xs[q]? = some y → k ≤ y.key)
theorem B1.start (xs : List KV) {m b : Nat} (k : Int) (h : m ≤ b) : B1 xs m b k m b := ⟨Nat.le_refl _, h, Nat.le_refl _, fun q y h1 h2 => by omega, fun q y h1 h2 => by omega⟩
theorem B1.up {xs : List KV} {m b i j h : Nat} {k : Int} {x : KV} (hs : SrtB xs m b) (g : B1 xs m b k i j) (h1 : i ≤ h) (h2 : h < j) (hx : xs[h]? = some x) (hk : x.key < k) : B1 xs m b k (h + 1) j := by
  obtain ⟨g1, g2, g3, g4, g5⟩ := g
  exact ⟨by omega, by omega, g3, fun q y q1 q2 hy => by have := hs.le q1 (by omega) (by omega) hy hx; omega, g5⟩
theorem B1.down {xs : List KV} {m b i j h : Nat} {k : Int} {x : KV} (hs : SrtB xs m b) (g : B1 xs m b k i j) (h1 : i ≤ h) (h2 : h < j) (hx : xs[h]? = some x) (hk : ¬ x.key < k) : B1 xs m b k i h := by
  obtain ⟨g1, g2, g3, g4, g5⟩ := g
  exact ⟨g1, h1, by omega, g4, fun q y q1 q2 hy => by have := hs.le (show m ≤ h by omega) q1 q2 hx hy; omega⟩
def B2 (xs : List KV) (a m : Nat) (k : Int) (i j : Nat) : Prop := a ≤ i ∧ i ≤ j ∧ j ≤ m ∧ (∀ q y, a ≤ q → q < i → xs[q]? = some y → y.key ≤ k) ∧ (∀ q y, j ≤ q → q < m → xs[q]? = some y → k < y.key)
theorem B2.start (xs : List KV) {a m : Nat} (k : Int) (h : a ≤ m) : B2 xs a m k a m := ⟨Nat.le_refl _, h, Nat.le_refl _, fun q y h1 h2 => by omega, fun q y h1 h2 => by omega⟩
theorem B2.up {xs : List KV} {a m i j h : Nat} {k : Int} {x : KV} (hs : SrtB xs a m) (g : B2 xs a m k i j) (h1 : i ≤ h) (h2 : h < j) (hx : xs[h]? = some x) (hk : ¬ k < x.key) : B2 xs a m k (h + 1) j := by
  obtain ⟨g1, g2, g3, g4, g5⟩ := g
  exact ⟨by omega, by omega, g3, fun q y q1 q2 hy => by have := hs.le q1 (by omega) (by omega) hy hx; omega, g5⟩
theorem B2.down {xs : List KV} {a m i j h : Nat} {k : Int} {x : KV} (hs : SrtB xs a m) (g : B2 xs a m k i j) (h1 : i ≤ h) (h2 : h < j) (hx : xs[h]? = some x) (hk : k < x.key) : B2 xs a m k i h := by
  obtain ⟨g1, g2, g3, g4, g5⟩ := g
  exact ⟨g1, h1, by omega, g4, fun q y q1 q2 hy => by have := hs.le (show a ≤ h by omega) q1 q2 hx hy; omega⟩
/-- the third: of each place in the first stretch and its fellow in the second -/
def B3 (xs : List KV) (p s0 r0 s r : Nat) : Prop := s0 ≤ s ∧ s ≤ r ∧ r ≤ r0 ∧ (∀ c x y, s0 ≤ c → c < s → xs[c]? = some x → xs[p - c]? = some y → x.key ≤ y.key) ∧ (∀ c x y, r ≤ c → c < r0 → xs[c]? = some x → xs[p - c]? = some y → y.key < x.key)
theorem B3.start (xs : List KV) {p s0 r0 : Nat} (h : s0 ≤ r0) : B3 xs p s0 r0 s0 r0 := ⟨Nat.le_refl _, h, Nat.le_refl _, fun q y h1 h2 => by omega, fun q y h1 h2 => by omega⟩
section
variable {xs : List KV} {a m b p s0 r0 : Nat}
theorem B3.up {s r c : Nat} {x y : KV} (h1 : SrtB xs a m) (h2 : SrtB xs m b) (g : B3 xs p s0 r0 s r) (ha : a ≤ s0) (hm : r0 ≤ m) (hp : p < s0 + b) (hp2 : m + r0 ≤ p + 1) (c1 : s ≤ c) (c2 : c < r) (hx : xs[c]? = some x) (hy : xs[p - c]? = some y) (hk : ¬ y.key < x.key) : B3 xs p s0 r0 (c + 1) r := by
  obtain ⟨g1, g2, g3, g4, g5⟩ := g
  refine ⟨by omega, by omega, g3, fun q u v q1 q2 hu hv => ?_, g5⟩
  have k1 := h1.le (show a ≤ q by omega) (show q ≤ c by omega) (show c < m by omega) hu hx
  have k2 := h2.le (show m ≤ p - c by omega) (show p - c ≤ p - q by omega) (show p - q < b by omega) hy hv
  omega
theorem B3.down {s r c : Nat} {x y : KV} (h1 : SrtB xs a m) (h2 : SrtB xs m b) (g : B3 xs p s0 r0 s r) (ha : a ≤ s0) (hm : r0 ≤ m) (hp : p < s0 + b) (hp2 : m + r0 ≤ p + 1) (c1 : s ≤ c) (c2 : c < r) (hx : xs[c]? = some x) (hy : xs[p - c]? = some y) (hk : y.key < x.key) : B3 xs p s0 r0 s c := by
  obtain ⟨g1, g2, g3, g4, g5⟩ := g
  refine ⟨g1, by omega, by omega, g4, fun q u v q1 q2 hu hv => ?_⟩
  have k1 := h1.le (show a ≤ c by omega) q1 (show q < m by omega) hx hu
  have k2 := h2.le (show m ≤ p - q by omega) (show p - q ≤ p - c by omega) (show p - c < b by omega) hv hy
  omega
theorem B3.cut {mid s : Nat} (h1 : SrtB xs a m) (h2 : SrtB xs m b) (hb : b ≤ xs.length) (ham : a < m) (hmb : m < b) (hmid : mid = (a + b) / 2) (hs : (m ≤ mid ∧ s0 = a ∧ r0 = m) ∨ (mid < m ∧ s0 = mid + m - b ∧ r0 = mid)) (g : B3 xs (mid + m - 1) s0 r0 s s) : Cut xs a m b mid s := by
  obtain ⟨g1, _, g3, g4, g5⟩ := g
  refine ⟨by omega, by omega, by omega, by omega, by omega, fun u v x y u1 u2 v1 v2 hu hv => ?_, fun u v x y u1 u2 v1 v2 hu hv => ?_⟩
  · have hs0 : s0 < s := by omega
    obtain ⟨x', hx'⟩ := get_of_lt (xs := xs) (i := s - 1) (by omega)
    obtain ⟨y', hy'⟩ := get_of_lt (xs := xs) (i := mid + m - 1 - (s - 1)) (by omega)
    have k1 := g4 (s - 1) x' y' (by omega) (by omega) hx' hy'
    have k2 := h1.le u1 (show u ≤ s - 1 by omega) (by omega) hu hx'
    have k3 := h2.le (show m ≤ mid + m - 1 - (s - 1) by omega) (show mid + m - 1 - (s - 1) ≤ v by omega) v2 hy' hv
    omega
  · have hs0 : s < r0 := by omega
    obtain ⟨x', hx'⟩ := get_of_lt (xs := xs) (i := s) (by omega)
    obtain ⟨y', hy'⟩ := get_of_lt (xs := xs) (i := mid + m - 1 - s) (by omega)
    have k1 := g5 s x' y' (by omega) hs0 hx' hy'
    have k2 := h1.le (show a ≤ s by omega) u1 u2 hx' hu
    have k3 := h2.le v1 (show v ≤ mid + m - 1 - s by omega) (by omega) hv hy'
    omega
end

/-! one element on its way up or down -/
def MvU (xs cur : List KV) (a k : Nat) : Prop := a ≤ k ∧ ∀ p, cur[p]? = if a ≤ p ∧ p < k then xs[p + 1]? else if p = k then xs[a]? else xs[p]?
theorem MvU.start (xs : List KV) (a : Nat) : MvU xs xs a a := ⟨Nat.le_refl _, fun p => by rw [if_neg (by omega)]; split; subst_vars; rfl; rfl⟩
theorem MvU.next {xs cur : List KV} {a k : Nat} {x y : KV} (h : MvU xs cur a k) (hx : cur[k]? = some x) (hy : cur[k + 1]? = some y) : MvU xs (swapL cur k (k + 1) x y) a (k + 1) := by
  have lx := (List.getElem?_eq_some_iff.1 hx).1
  have ly := (List.getElem?_eq_some_iff.1 hy).1
  have h0 := h.1
  have gx := h.2 k
  have gy := h.2 (k + 1)
  rw [if_neg (by omega), if_pos rfl] at gx
  rw [if_neg (by omega), if_neg (by omega)] at gy
  refine ⟨by omega, fun p => ?_⟩
  rw [swapL_get lx ly (by omega)]
  by_cases e1 : p = k + 1
  · subst e1; rw [if_pos rfl, if_neg (by omega), if_pos rfl, ← gx, hx]
  · rw [if_neg e1]
    by_cases e2 : p = k
    · subst e2; rw [if_pos rfl, if_pos (by omega), ← gy, hy]
    · rw [if_neg e2, h.2 p]
      by_cases c1 : a ≤ p ∧ p < k
      · rw [if_pos c1, if_pos (by omega)]
      · rw [if_neg c1, if_neg e2, if_neg (by omega), if_neg e1]
theorem MvU.done {xs cur : List KV} {a b i : Nat} {x : KV} (hx : xs[a]? = some x) (hs : SrtB xs (a + 1) b) (hX : IxX xs a (a + 1) b) (g : B1 xs (a + 1) b x.key i i) (h : MvU xs cur a (i - 1)) : SrtB cur a b := by
  obtain ⟨g1, _, g3, g4, g5⟩ := g
  have G := h.2
  intro p q u v p1 p2 p3 hu hv
  rw [G p] at hu
  rw [G q] at hv
  by_cases c1 : p < i - 1
  · rw [if_pos ⟨p1, c1⟩] at hu
    by_cases c2 : q < i - 1
    · rw [if_pos ⟨by omega, c2⟩] at hv
      exact hs _ _ u v (by omega) (by omega) (by omega) hu hv
    · rw [if_neg (by omega)] at hv
      by_cases c3 : q = i - 1
      · rw [if_pos c3, hx] at hv; injection hv with hv; subst hv
        exact .inl (g4 _ u (by omega) (by omega) hu)
      · rw [if_neg c3] at hv
        exact hs _ _ u v (by omega) (by omega) p3 hu hv
  · rw [if_neg (by omega)] at hu
    by_cases c2 : p = i - 1
    · rw [if_pos c2, hx] at hu; injection hu with hu; subst hu
      rw [if_neg (by omega), if_neg (by omega)] at hv
      have k1 := g5 q v (by omega) p3 hv
      have k2 := hX a q x v (Nat.le_refl _) (by omega) (by omega) p3 hx hv
      unfold KV.lt; omega
    · rw [if_neg c2] at hu
      rw [if_neg (by omega), if_neg (by omega)] at hv
      exact hs _ _ u v (by omega) p2 p3 hu hv
def MvD (xs cur : List KV) (m k : Nat) : Prop := k ≤ m ∧ ∀ p, cur[p]? = if k < p ∧ p ≤ m then xs[p - 1]? else if p = k then xs[m]? else xs[p]?
theorem MvD.start (xs : List KV) (m : Nat) : MvD xs xs m m := ⟨Nat.le_refl _, fun p => by rw [if_neg (by omega)]; split; subst_vars; rfl; rfl⟩
theorem MvD.next {xs cur : List KV} {m k : Nat} {x y : KV} (h : MvD xs cur m k) (hk : 0 < k) (hx : cur[k]? = some x) (hy : cur[k - 1]? = some y) : MvD xs (swapL cur k (k - 1) x y) m (k - 1) := by
  have lx := (List.getElem?_eq_some_iff.1 hx).1
  have ly := (List.getElem?_eq_some_iff.1 hy).1
  have h0 := h.1
  have gx := h.2 k
  have gy := h.2 (k - 1)
  rw [if_neg (by omega), if_pos rfl] at gx
  rw [if_neg (by omega), if_neg (by omega)] at gy
  refine ⟨by omega, fun p => ?_⟩
  rw [swapL_get lx ly (by omega)]
  by_cases e1 : p = k - 1
  · subst e1; rw [if_pos rfl, if_neg (by omega), if_pos rfl, ← gx, hx]
  · rw [if_neg e1]
    by_cases e2 : p = k
    · subst e2; rw [if_pos rfl, if_pos (by omega), ← gy, hy]
    · rw [if_neg e2, h.2 p]
      by_cases c1 : k < p ∧ p ≤ m
      · rw [if_pos c1, if_pos (by omega)]
      · rw [if_neg c1, if_neg e2, if_neg (by omega), if_neg e1]
theorem MvD.done {xs cur : List KV} {a m i : Nat} {y : KV} (hy : xs[m]? = some y) (hs : SrtB xs a m) (hX : IxX xs a m (m + 1)) (g : B2 xs a m y.key i i) (h : MvD xs cur m i) : SrtB cur a (m + 1) := by
  obtain ⟨g1, _, g3, g4, g5⟩ := g
  have G := h.2
  intro p q u v p1 p2 p3 hu hv
  rw [G p] at hu
  rw [G q] at hv
  by_cases c1 : p < i
  · rw [if_neg (by omega), if_neg (by omega)] at hu
    by_cases c2 : q < i
    · rw [if_neg (by omega), if_neg (by omega)] at hv
      exact hs _ _ u v p1 p2 (by omega) hu hv
    · by_cases c3 : q = i
      · rw [if_neg (by omega), if_pos c3, hy] at hv; injection hv with hv; subst hv
        have k1 := g4 p u p1 c1 hu
        have k2 := hX p m u y p1 (by omega) (Nat.le_refl _) (by omega) hu hy
        unfold KV.lt; omega
      · rw [if_pos (by omega)] at hv
        exact hs _ _ u v p1 (by omega) (by omega) hu hv
  · by_cases c2 : p = i
    · rw [if_neg (by omega), if_pos c2, hy] at hu; injection hu with hu; subst hu
      rw [if_pos (by omega)] at hv
      exact .inl (g5 _ v (by omega) (by omega) hv)
    · rw [if_pos (by omega)] at hu
      rw [if_pos (by omega)] at hv
      exact hs _ _ u v (by omega) (by omega) (by omega) hu hv
end Go.Proofs.Ytdaagdohhnhbdaa
