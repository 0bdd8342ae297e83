/- Contracts and plain laws that the proof leans on. Condition: as each theorem says. -/
import Derived.Test.YtlmkokeapbleoaaGreatV09
import Derived.Test.YtlmkokeapbleoaaGreatV04
import Derived.Test.YtlmkokeapbleoaaGreatV01
import Derived.Deep.QuietTactic
import Derived.Shelf.RegionOpenPlain
set_option maxRecDepth 100000
set_option maxHeartbeats 64000000
set_option linter.unusedVariables false
set_option linter.unusedSimpArgs false
namespace Go.Proofs.YtlmkokeapbleoaaGreat
open Go.RowKit
section
def SwI (xs ys : List KV) (a b k : Nat) : Prop := ∀ p, ys[p]? = if a ≤ p ∧ p < a + k then xs[p - a + b]? else if b ≤ p ∧ p < b + k then xs[p - b + a]? else xs[p]?
theorem SwI.start (xs : List KV) (a b : Nat) : SwI xs xs a b 0 := fun p => by rw [if_neg (by omega), if_neg (by omega)]
theorem SwI.next {xs ys : List KV} {a b k : Nat} {x y : KV} (h : SwI xs ys a b k) (hab : a + k < b) (hx : ys[a + k]? = some x) (hy : ys[b + k]? = some y) : SwI xs (swapL ys (a + k) (b + k) x y) a b (k + 1) := by
 have lx := (List.getElem?_eq_some_iff.1 hx).1
 have ly := (List.getElem?_eq_some_iff.1 hy).1
 have gx := h (a + k)
 have gy := h (b + k)
 rw [if_neg (by omega), if_neg (by omega)] at gx gy
 intro p
 rw [swapL_get lx ly (by omega)]
 by_cases e1 : p = b + k
 ·subst e1
  rw [if_pos rfl, if_neg (by omega), if_pos (by omega), show b + k - b + a = a + k by omega, ← gx, hx]
 ·rw [if_neg e1]
  by_cases e2 : p = a + k
  ·subst e2
   rw [if_pos rfl, if_pos (by omega), show a + k - a + b = b + k by omega, ← gy, hy]
  ·rw [if_neg e2, h p]
   by_cases c1 : a ≤ p ∧ p < a + k
   ·rw [if_pos c1, if_pos (by omega)]
   ·rw [if_neg c1, if_neg (show ¬ (a ≤ p ∧ p < a + (k + 1)) by omega)]
    by_cases c2 : b ≤ p ∧ p < b + k
    ·rw [if_pos c2, if_pos (show b ≤ p ∧ p < b + (k + 1) by omega)]
    ·rw [if_neg c2, if_neg (show ¬ (b ≤ p ∧ p < b + (k + 1)) by omega)]
def RotT (xs : List KV) (a m b p : Nat) : Option KV := if p < a then xs[p]? else if p < a + (b - m) then xs[p - a + m]? else if p < b then xs[p - (b - m)]? else xs[p]?
def RotS (T : Nat → Option KV) (cur : List KV) (m i j : Nat) : Prop := i ≤ m ∧ (∀ p, (p < m - i ∨ m + j ≤ p) → cur[p]? = T p) ∧ (∀ p, m - i ≤ p → p < m → cur[p]? = T (p + j)) ∧ (∀ p, m ≤ p → p < m + j → cur[p]? = T (p - i))
theorem RotS.start {xs : List KV} {a m b : Nat} (h1 : a ≤ m) (h2 : m ≤ b) : RotS (RotT xs a m b) xs m (m - a) (b - m) := by
 refine ⟨by omega, fun p hp => ?_, fun p h3 h4 => ?_, fun p h3 h4 => ?_⟩
 ·unfold RotT
  rcases hp with hp | hp
  ·rw [if_pos (by omega)]
  ·rw [if_neg (by omega), if_neg (by omega), if_neg (by omega)]
 ·unfold RotT
  rw [if_neg (by omega), if_neg (by omega), if_pos (by omega), show p + (b - m) - (b - m) = p by omega]
 ·unfold RotT
  rw [if_neg (by omega), if_pos (by omega), show p - (m - a) - a + m = p by omega]
theorem RotS.left {T : Nat → Option KV} {cur ys : List KV} {m i j : Nat} (h : RotS T cur m i j) (hij : j < i) (hs : SwI cur ys (m - i) m j) : RotS T ys m (i - j) j := by
 obtain ⟨h0, h1, h2, h3⟩ := h
 refine ⟨by omega, fun p hp => ?_, fun p g1 g2 => ?_, fun p g1 g2 => ?_⟩
 ·rw [hs p]
  by_cases c1 : m - i ≤ p ∧ p < m - i + j
  ·rw [if_pos c1, h3 _ (by omega) (by omega)]; congr 1; omega
  ·rw [if_neg c1, if_neg (by omega)]; exact h1 p (by omega)
 ·rw [hs p, if_neg (by omega), if_neg (by omega)]; exact h2 p (by omega) g2
 ·rw [hs p, if_neg (by omega), if_pos (by omega), h2 _ (by omega) (by omega)]; congr 1; omega
theorem RotS.right {T : Nat → Option KV} {cur ys : List KV} {m i j : Nat} (h : RotS T cur m i j) (hij : i < j) (hs : SwI cur ys (m - i) (m + j - i) i) : RotS T ys m i (j - i) := by
 obtain ⟨h0, h1, h2, h3⟩ := h
 refine ⟨h0, fun p hp => ?_, fun p g1 g2 => ?_, fun p g1 g2 => ?_⟩
 ·rw [hs p]
  by_cases c1 : m - i ≤ p ∧ p < m - i + i
  ·omega
  ·rw [if_neg c1]
   by_cases c2 : m + j - i ≤ p ∧ p < m + j - i + i
   ·rw [if_pos c2, h2 _ (by omega) (by omega)]; congr 1; omega
   ·rw [if_neg c2]; exact h1 p (by omega)
 ·rw [hs p, if_pos (by omega), h3 _ (by omega) (by omega)]; congr 1; omega
 ·rw [hs p, if_neg (by omega), if_neg (by omega)]; exact h3 p g1 (by omega)
theorem RotS.done {T : Nat → Option KV} {cur ys : List KV} {m i : Nat} (h : RotS T cur m i i) (hs : SwI cur ys (m - i) m i) (p : Nat) : ys[p]? = T p := by
 obtain ⟨h0, h1, h2, h3⟩ := h
 rw [hs p]
 by_cases c1 : m - i ≤ p ∧ p < m - i + i
 ·rw [if_pos c1, h3 _ (by omega) (by omega)]; congr 1; omega
 ·rw [if_neg c1]
  by_cases c2 : m ≤ p ∧ p < m + i
  ·rw [if_pos c2, h2 _ (by omega) (by omega)]; congr 1; omega
  ·rw [if_neg c2]; exact h1 p (by omega)
theorem rot_same {xs : List KV} {a m b : Nat} (h : a = m ∨ m = b) (h1 : a ≤ m) (h2 : m ≤ b) (p : Nat) : xs[p]? = RotT xs a m b p := by
 unfold RotT
 by_cases c1 : p < a
 ·rw [if_pos c1]
 ·rw [if_neg c1]
  by_cases c2 : p < a + (b - m)
  ·rw [if_pos c2]; congr 1; omega
  ·rw [if_neg c2]
   by_cases c3 : p < b
   ·rw [if_pos c3]; congr 1; omega
   ·rw [if_neg c3]
def IxX (xs : List KV) (a m b : Nat) : Prop := ∀ i j x y, a ≤ i → i < m → m ≤ j → j < b → xs[i]? = some x → xs[j]? = some y → x.ix < y.ix
def Cut (xs : List KV) (a m b mid s : Nat) : Prop := a ≤ s ∧ s ≤ m ∧ s ≤ mid ∧ mid + m - s ≤ b ∧ m ≤ mid + m - s ∧
 (∀ u v x y, a ≤ u → u < s → mid + m - s ≤ v → v < b → xs[u]? = some x → xs[v]? = some y → x.key ≤ y.key) ∧
 (∀ u v x y, s ≤ u → u < m → m ≤ v → v < mid + m - s → xs[u]? = some x → xs[v]? = some y → y.key < x.key)
theorem Cut.get {xs ys : List KV} {a m b mid s : Nat} (h : Cut xs a m b mid s) (hy : ∀ p, ys[p]? = RotT xs s m (mid + m - s) p) :
  (∀ p, p < s → ys[p]? = xs[p]?) ∧ (∀ p, s ≤ p → p < mid → ys[p]? = xs[p - s + m]?) ∧ (∀ p, mid ≤ p → p < mid + m - s → ys[p]? = xs[p - (mid - s)]?) ∧ (∀ p, mid + m - s ≤ p → ys[p]? = xs[p]?) := by
 obtain ⟨h1, h2, h3, h4, h5, _, _⟩ := h
 refine ⟨fun p g => ?_, fun p g g' => ?_, fun p g g' => ?_, fun p g => ?_⟩
 ·rw [hy, RotT, if_pos g]
 ·rw [hy, RotT, if_neg (by omega), if_pos (by omega)]
 ·rw [hy, RotT, if_neg (by omega), if_neg (by omega), if_pos (by omega)]; congr 1; omega
 ·rw [hy, RotT, if_neg (by omega), if_neg (by omega), if_neg (by omega)]
theorem Cut.halves {xs ys : List KV} {a m b mid s : Nat} (h : Cut xs a m b mid s) (h1 : SrtB xs a m) (h2 : SrtB xs m b) (hx : IxX xs a m b) (hy : ∀ p, ys[p]? = RotT xs s m (mid + m - s) p) :
  SrtB ys a s ∧ SrtB ys s mid ∧ IxX ys a s mid ∧ SrtB ys mid (mid + m - s) ∧ SrtB ys (mid + m - s) b ∧ IxX ys mid (mid + m - s) b ∧
  (∀ i j x y, a ≤ i → i < mid → mid ≤ j → j < b → ys[i]? = some x → ys[j]? = some y → KV.lt x y) := by
 obtain ⟨G1, G2, G3, G4⟩ := h.get hy
 obtain ⟨c1, c2, c3, c4, c5, K1, K2⟩ := h
 refine ⟨?_, ?_, ?_, ?_, ?_, ?_, ?_⟩
 ·intro i j x y g1 g2 g3 e1 e2
  rw [G1 i (by omega)] at e1; rw [G1 j g3] at e2
  exact h1 i j x y g1 g2 (by omega) e1 e2
 ·intro i j x y g1 g2 g3 e1 e2
  rw [G2 i g1 (by omega)] at e1; rw [G2 j (by omega) g3] at e2
  exact h2 _ _ x y (by omega) (by omega) (by omega) e1 e2
 ·intro i j x y g1 g2 g3 g4 e1 e2
  rw [G1 i g2] at e1; rw [G2 j g3 g4] at e2
  exact hx _ _ x y g1 (by omega) (by omega) (by omega) e1 e2
 ·intro i j x y g1 g2 g3 e1 e2
  rw [G3 i g1 (by omega)] at e1; rw [G3 j (by omega) g3] at e2
  exact h1 _ _ x y (by omega) (by omega) (by omega) e1 e2
 ·intro i j x y g1 g2 g3 e1 e2
  rw [G4 i g1] at e1; rw [G4 j (by omega)] at e2
  exact h2 _ _ x y (by omega) (by omega) (by omega) e1 e2
 ·intro i j x y g1 g2 g3 g4 e1 e2
  rw [G3 i g1 g2] at e1; rw [G4 j g3] at e2
  exact hx _ _ x y (by omega) (by omega) (by omega) g4 e1 e2
 ·intro i j x y g1 g2 g3 g4 e1 e2
  by_cases d1 : i < s
  ·rw [G1 i d1] at e1
   by_cases d2 : j < mid + m - s
   ·rw [G3 j g3 d2] at e2
    exact h1 _ _ x y g1 (by omega) (by omega) e1 e2
   ·rw [G4 j (by omega)] at e2
    have k1 := K1 i j x y g1 d1 (by omega) g4 e1 e2
    have k2 := hx i j x y g1 (by omega) (by omega) g4 e1 e2
    unfold KV.lt; omega
  ·rw [G2 i (by omega) g2] at e1
   by_cases d2 : j < mid + m - s
   ·rw [G3 j g3 d2] at e2
    exact .inl (K2 _ _ y x (by omega) (by omega) (by omega) (by omega) e2 e1)
   ·rw [G4 j (by omega)] at e2
    exact h2 _ _ x y (by omega) (by omega) (by omega) e1 e2
theorem Rch.ixx {a b c d m : Nat} {xs ys : List KV} (h : IxX xs a m b) (hr : Rch c d xs ys) (ho : d ≤ a ∨ b ≤ c) : IxX ys a m b := by
 intro i j x y g1 g2 g3 g4 e1 e2
 rw [hr.out i (by omega)] at e1
 rw [hr.out j (by omega)] at e2
 exact h i j x y g1 g2 g3 g4 e1 e2
theorem halves_join {ys zs us : List KV} {a mid b : Nat} (hx : ∀ i j x y, a ≤ i → i < mid → mid ≤ j → j < b → ys[i]? = some x → ys[j]? = some y → KV.lt x y)
  (r1 : Rch a mid ys zs) (r2 : Rch mid b zs us) (s1 : SrtB zs a mid) (s2 : SrtB us mid b) : SrtB us a b := by
 refine SrtB.join (s1.out r2 (.inl (Nat.le_refl _))) s2 ?_
 intro i j x y g1 g2 g3 g4 e1 e2
 rw [r2.out i (.inl g2)] at e1
 refine r1.all (P := fun x => KV.lt x y) (fun i' x' h1 h2 hx' => ?_) i x g1 g2 e1
 refine r2.all (P := fun y => KV.lt x' y) (fun j' y' h3 h4 hy' => ?_) j y g3 g4 e2
 rw [r1.out j' (.inr h3)] at hy'
 exact hx i' j' x' y' h1 h2 h3 h4 hx' hy'
def B1 (xs : List KV) (m b : Nat) (k : Int) (i j : Nat) : Prop := m ≤ i ∧ i ≤ j ∧ j ≤ b ∧ (∀ q y, m ≤ q → q < i → xs[q]? = some y → y.key < k) ∧ (∀ q y, j ≤ q → q < b → xs[q]? = some y → k ≤ y.key)
theorem B1.start (xs : List KV) {m b : Nat} (k : Int) (h : m ≤ b) : B1 xs m b k m b := ⟨Nat.le_refl _, h, Nat.le_refl _, fun q y h1 h2 => by omega, fun q y h1 h2 => by omega⟩
theorem B1.up {xs : List KV} {m b i j h : Nat} {k : Int} {x : KV} (hs : SrtB xs m b) (g : B1 xs m b k i j) (h1 : i ≤ h) (h2 : h < j) (hx : xs[h]? = some x) (hk : x.key < k) : B1 xs m b k (h + 1) j := by
 obtain ⟨g1, g2, g3, g4, g5⟩ := g
 exact ⟨by omega, by omega, g3, fun q y q1 q2 hy => by have := hs.le q1 (by omega) (by omega) hy hx; omega, g5⟩
theorem B1.down {xs : List KV} {m b i j h : Nat} {k : Int} {x : KV} (hs : SrtB xs m b) (g : B1 xs m b k i j) (h1 : i ≤ h) (h2 : h < j) (hx : xs[h]? = some x) (hk : ¬ x.key < k) : B1 xs m b k i h := by
 obtain ⟨g1, g2, g3, g4, g5⟩ := g
 exact ⟨g1, h1, by omega, g4, fun q y q1 q2 hy => by have := hs.le (show m ≤ h by omega) q1 q2 hx hy; omega⟩
def B2 (xs : List KV) (a m : Nat) (k : Int) (i j : Nat) : Prop := a ≤ i ∧ i ≤ j ∧ j ≤ m ∧ (∀ q y, a ≤ q → q < i → xs[q]? = some y → y.key ≤ k) ∧ (∀ q y, j ≤ q → q < m → xs[q]? = some y → k < y.key)
theorem B2.start (xs : List KV) {a m : Nat} (k : Int) (h : a ≤ m) : B2 xs a m k a m := ⟨Nat.le_refl _, h, Nat.le_refl _, fun q y h1 h2 => by omega, fun q y h1 h2 => by omega⟩
theorem B2.up {xs : List KV} {a m i j h : Nat} {k : Int} {x : KV} (hs : SrtB xs a m) (g : B2 xs a m k i j) (h1 : i ≤ h) (h2 : h < j) (hx : xs[h]? = some x) (hk : ¬ k < x.key) : B2 xs a m k (h + 1) j := by
 obtain ⟨g1, g2, g3, g4, g5⟩ := g
 exact ⟨by omega, by omega, g3, fun q y q1 q2 hy => by have := hs.le q1 (by omega) (by omega) hy hx; omega, g5⟩
theorem B2.down {xs : List KV} {a m i j h : Nat} {k : Int} {x : KV} (hs : SrtB xs a m) (g : B2 xs a m k i j) (h1 : i ≤ h) (h2 : h < j) (hx : xs[h]? = some x) (hk : k < x.key) : B2 xs a m k i h := by
 obtain ⟨g1, g2, g3, g4, g5⟩ := g
 exact ⟨g1, h1, by omega, g4, fun q y q1 q2 hy => by have := hs.le (show a ≤ h by omega) q1 q2 hx hy; omega⟩
def B3 (xs : List KV) (p s0 r0 s r : Nat) : Prop := s0 ≤ s ∧ s ≤ r ∧ r ≤ r0 ∧ (∀ c x y, s0 ≤ c → c < s → xs[c]? = some x → xs[p - c]? = some y → x.key ≤ y.key) ∧ (∀ c x y, r ≤ c → c < r0 → xs[c]? = some x → xs[p - c]? = some y → y.key < x.key)
theorem B3.start (xs : List KV) {p s0 r0 : Nat} (h : s0 ≤ r0) : B3 xs p s0 r0 s0 r0 := ⟨Nat.le_refl _, h, Nat.le_refl _, fun q y h1 h2 => by omega, fun q y h1 h2 => by omega⟩
section
variable {xs : List KV} {a m b p s0 r0 : Nat}
theorem B3.up {s r c : Nat} {x y : KV} (h1 : SrtB xs a m) (h2 : SrtB xs m b) (g : B3 xs p s0 r0 s r) (ha : a ≤ s0) (hm : r0 ≤ m) (hp : p < s0 + b) (hp2 : m + r0 ≤ p + 1) (c1 : s ≤ c) (c2 : c < r) (hx : xs[c]? = some x) (hy : xs[p - c]? = some y) (hk : ¬ y.key < x.key) : B3 xs p s0 r0 (c + 1) r := by
 obtain ⟨g1, g2, g3, g4, g5⟩ := g
 refine ⟨by omega, by omega, g3, fun q u v q1 q2 hu hv => ?_, g5⟩
 have k1 := h1.le (show a ≤ q by omega) (show q ≤ c by omega) (show c < m by omega) hu hx
 have k2 := h2.le (show m ≤ p - c by omega) (show p - c ≤ p - q by omega) (show p - q < b by omega) hy hv
 omega
theorem B3.down {s r c : Nat} {x y : KV} (h1 : SrtB xs a m) (h2 : SrtB xs m b) (g : B3 xs p s0 r0 s r) (ha : a ≤ s0) (hm : r0 ≤ m) (hp : p < s0 + b) (hp2 : m + r0 ≤ p + 1) (c1 : s ≤ c) (c2 : c < r) (hx : xs[c]? = some x) (hy : xs[p - c]? = some y) (hk : y.key < x.key) : B3 xs p s0 r0 s c := by
 obtain ⟨g1, g2, g3, g4, g5⟩ := g
 refine ⟨g1, by omega, by omega, g4, fun q u v q1 q2 hu hv => ?_⟩
 have k1 := h1.le (show a ≤ c by omega) q1 (show q < m by omega) hx hu
 have k2 := h2.le (show m ≤ p - q by omega) (show p - q ≤ p - c by omega) (show p - c < b by omega) hv hy
 omega
theorem B3.cut {mid s : Nat} (h1 : SrtB xs a m) (h2 : SrtB xs m b) (hb : b ≤ xs.length) (ham : a < m) (hmb : m < b) (hmid : mid = (a + b) / 2) (hs : (m ≤ mid ∧ s0 = a ∧ r0 = m) ∨ (mid < m ∧ s0 = mid + m - b ∧ r0 = mid)) (g : B3 xs (mid + m - 1) s0 r0 s s) : Cut xs a m b mid s := by
 obtain ⟨g1, _, g3, g4, g5⟩ := g
 refine ⟨by omega, by omega, by omega, by omega, by omega, fun u v x y u1 u2 v1 v2 hu hv => ?_, fun u v x y u1 u2 v1 v2 hu hv => ?_⟩
 ·have hs0 : s0 < s := by omega
  obtain ⟨x', hx'⟩ := get_of_lt (xs := xs) (i := s - 1) (by omega)
  obtain ⟨y', hy'⟩ := get_of_lt (xs := xs) (i := mid + m - 1 - (s - 1)) (by omega)
  have k1 := g4 (s - 1) x' y' (by omega) (by omega) hx' hy'
  have k2 := h1.le u1 (show u ≤ s - 1 by omega) (by omega) hu hx'
  have k3 := h2.le (show m ≤ mid + m - 1 - (s - 1) by omega) (show mid + m - 1 - (s - 1) ≤ v by omega) v2 hy' hv
  omega
 ·have hs0 : s < r0 := by omega
  obtain ⟨x', hx'⟩ := get_of_lt (xs := xs) (i := s) (by omega)
  obtain ⟨y', hy'⟩ := get_of_lt (xs := xs) (i := mid + m - 1 - s) (by omega)
  have k1 := g5 s x' y' (by omega) hs0 hx' hy'
  have k2 := h1.le (show a ≤ s by omega) u1 u2 hx' hu
  have k3 := h2.le v1 (show v ≤ mid + m - 1 - s by omega) (by omega) hv hy'
  omega
end
def MvU (xs cur : List KV) (a k : Nat) : Prop := a ≤ k ∧ ∀ p, cur[p]? = if a ≤ p ∧ p < k then xs[p + 1]? else if p = k then xs[a]? else xs[p]?
theorem MvU.start (xs : List KV) (a : Nat) : MvU xs xs a a := ⟨Nat.le_refl _, fun p => by rw [if_neg (by omega)]; split; subst_vars; rfl; rfl⟩
theorem MvU.next {xs cur : List KV} {a k : Nat} {x y : KV} (h : MvU xs cur a k) (hx : cur[k]? = some x) (hy : cur[k + 1]? = some y) : MvU xs (swapL cur k (k + 1) x y) a (k + 1) := by
 have lx := (List.getElem?_eq_some_iff.1 hx).1
 have ly := (List.getElem?_eq_some_iff.1 hy).1
 have h0 := h.1
 have gx := h.2 k
 have gy := h.2 (k + 1)
 rw [if_neg (by omega), if_pos rfl] at gx
 rw [if_neg (by omega), if_neg (by omega)] at gy
 refine ⟨by omega, fun p => ?_⟩
 rw [swapL_get lx ly (by omega)]
 by_cases e1 : p = k + 1
 ·subst e1; rw [if_pos rfl, if_neg (by omega), if_pos rfl, ← gx, hx]
 ·rw [if_neg e1]
  by_cases e2 : p = k
  ·subst e2; rw [if_pos rfl, if_pos (by omega), ← gy, hy]
  ·rw [if_neg e2, h.2 p]
   by_cases c1 : a ≤ p ∧ p < k
   ·rw [if_pos c1, if_pos (by omega)]
   ·rw [if_neg c1, if_neg e2, if_neg (by omega), if_neg e1]
theorem MvU.done {xs cur : List KV} {a b i : Nat} {x : KV} (hx : xs[a]? = some x) (hs : SrtB xs (a + 1) b) (hX : IxX xs a (a + 1) b) (g : B1 xs (a + 1) b x.key i i) (h : MvU xs cur a (i - 1)) : SrtB cur a b := by
 obtain ⟨g1, _, g3, g4, g5⟩ := g
 have G := h.2
 intro p q u v p1 p2 p3 hu hv
 rw [G p] at hu
 rw [G q] at hv
 by_cases c1 : p < i - 1
 ·rw [if_pos ⟨p1, c1⟩] at hu
  by_cases c2 : q < i - 1
  ·rw [if_pos ⟨by omega, c2⟩] at hv
   exact hs _ _ u v (by omega) (by omega) (by omega) hu hv
  ·rw [if_neg (by omega)] at hv
   by_cases c3 : q = i - 1
   ·rw [if_pos c3, hx] at hv; injection hv with hv; subst hv
    exact .inl (g4 _ u (by omega) (by omega) hu)
   ·rw [if_neg c3] at hv
    exact hs _ _ u v (by omega) (by omega) p3 hu hv
 ·rw [if_neg (by omega)] at hu
  by_cases c2 : p = i - 1
  ·rw [if_pos c2, hx] at hu; injection hu with hu; subst hu
   rw [if_neg (by omega), if_neg (by omega)] at hv
   have k1 := g5 q v (by omega) p3 hv
   have k2 := hX a q x v (Nat.le_refl _) (by omega) (by omega) p3 hx hv
   unfold KV.lt; omega
  ·rw [if_neg c2] at hu
   rw [if_neg (by omega), if_neg (by omega)] at hv
   exact hs _ _ u v (by omega) p2 p3 hu hv
def MvD (xs cur : List KV) (m k : Nat) : Prop := k ≤ m ∧ ∀ p, cur[p]? = if k < p ∧ p ≤ m then xs[p - 1]? else if p = k then xs[m]? else xs[p]?
theorem MvD.start (xs : List KV) (m : Nat) : MvD xs xs m m := ⟨Nat.le_refl _, fun p => by rw [if_neg (by omega)]; split; subst_vars; rfl; rfl⟩
theorem MvD.next {xs cur : List KV} {m k : Nat} {x y : KV} (h : MvD xs cur m k) (hk : 0 < k) (hx : cur[k]? = some x) (hy : cur[k - 1]? = some y) : MvD xs (swapL cur k (k - 1) x y) m (k - 1) := by
 have lx := (List.getElem?_eq_some_iff.1 hx).1
 have ly := (List.getElem?_eq_some_iff.1 hy).1
 have h0 := h.1
 have gx := h.2 k
 have gy := h.2 (k - 1)
 rw [if_neg (by omega), if_pos rfl] at gx
 rw [if_neg (by omega), if_neg (by omega)] at gy
 refine ⟨by omega, fun p => ?_⟩
 rw [swapL_get lx ly (by omega)]
 by_cases e1 : p = k - 1
 ·subst e1; rw [if_pos rfl, if_neg (by omega), if_pos rfl, ← gx, hx]
 ·rw [if_neg e1]
  by_cases e2 : p = k
  ·subst e2; rw [if_pos rfl, if_pos (by omega), ← gy, hy]
  ·rw [if_neg e2, h.2 p]
   by_cases c1 : k < p ∧ p ≤ m
   ·rw [if_pos c1, if_pos (by omega)]
   ·rw [if_neg c1, if_neg e2, if_neg (by omega), if_neg e1]
theorem MvD.done {xs cur : List KV} {a m i : Nat} {y : KV} (hy : xs[m]? = some y) (hs : SrtB xs a m) (hX : IxX xs a m (m + 1)) (g : B2 xs a m y.key i i) (h : MvD xs cur m i) : SrtB cur a (m + 1) := by
 obtain ⟨g1, _, g3, g4, g5⟩ := g
 have G := h.2
 intro p q u v p1 p2 p3 hu hv
 rw [G p] at hu
 rw [G q] at hv
 by_cases c1 : p < i
 ·rw [if_neg (by omega), if_neg (by omega)] at hu
  by_cases c2 : q < i
  ·rw [if_neg (by omega), if_neg (by omega)] at hv
   exact hs _ _ u v p1 p2 (by omega) hu hv
  ·by_cases c3 : q = i
   ·rw [if_neg (by omega), if_pos c3, hy] at hv; injection hv with hv; subst hv
    have k1 := g4 p u p1 c1 hu
    have k2 := hX p m u y p1 (by omega) (Nat.le_refl _) (by omega) hu hy
    unfold KV.lt; omega
   ·rw [if_pos (by omega)] at hv
    exact hs _ _ u v p1 (by omega) (by omega) hu hv
 ·by_cases c2 : p = i
  ·rw [if_neg (by omega), if_pos c2, hy] at hu; injection hu with hu; subst hu
   rw [if_pos (by omega)] at hv
   exact .inl (g5 _ v (by omega) (by omega) hv)
  ·rw [if_pos (by omega)] at hu
   rw [if_pos (by omega)] at hv
   exact hs _ _ u v (by omega) (by omega) (by omega) hu hv
end
def KV.val (x : KV) : Value := .slice (some ⟨x.b, x.off, none⟩) x.n x.c
structure KSt (W : World) (base g cap : Nat) (xs : List KV) : Prop where
 row : W.ownsRow base 103 1 (.slice (some ⟨g, 0, none⟩) xs.length cap) xs.length (xs.map KV.val)
 good : ∀ x ∈ xs, x.b ≠ g ∧ 1 ≤ x.n ∧ x.n < 4611686018427387904 ∧ W.cell? ⟨x.b, x.off, none⟩ = some (.int .i64 x.key)
theorem KSt.drewN {W : World} {base g cap : Nat} {xs : List KV} (h : KSt W base g cap xs) (q : Nat) : KSt (W.drewN q) base g cap xs := ⟨h.row, h.good⟩
theorem KSt.at_ {W : World} {base g cap : Nat} {xs : List KV} (h : KSt W base g cap xs) {i : Nat} {x : KV} (hi : xs[i]? = some x) : W.cell? ⟨g, i, none⟩ = some x.val := by
 have hl := (List.getElem?_eq_some_iff.1 hi).1
 rw [h.row.cellAt i (by omega), List.getElem?_map, hi]; rfl
theorem KSt.key {W : World} {base g cap : Nat} {xs : List KV} (h : KSt W base g cap xs) {i : Nat} {x : KV} (hi : xs[i]? = some x) : 1 ≤ x.n ∧ x.n < 4611686018427387904 ∧ W.cell? ⟨x.b, x.off, none⟩ = some (.int .i64 x.key) :=
 (h.good x (List.mem_of_getElem? hi)).2
theorem KSt.st1 {W : World} {base g cap : Nat} {xs : List KV} (h : KSt W base g cap xs) {i j : Nat} {y : KV} (u : Value) (hj : xs[j]? = some y) (hij : i ≠ j) : (W.setCell ⟨g, i, none⟩ u).cell? ⟨g, j, none⟩ = some y.val := by
 have hl := (List.getElem?_eq_some_iff.1 hj).1
 rw [(h.row.stored i u).1.cellAt j (by omega), List.getElem?_set_ne hij, List.getElem?_map, hj]; rfl
theorem KSt.swap {W : World} {base g cap : Nat} {xs : List KV} (h : KSt W base g cap xs) {i j : Nat} {x y : KV} (hi : xs[i]? = some x) (hj : xs[j]? = some y) :
  KSt ((W.setCell ⟨g, i, none⟩ y.val).setCell ⟨g, j, none⟩ x.val) base g cap (swapL xs i j x y) ∧ W.grownBy ((W.setCell ⟨g, i, none⟩ y.val).setCell ⟨g, j, none⟩ x.val) (some g) := by
 obtain ⟨s1, g1⟩ := h.row.stored i y.val
 obtain ⟨s2, g2⟩ := s1.stored j x.val
 have hg := g1.trans g2
 have hp := swapL_perm hi hj
 refine ⟨⟨?_, fun z hz => ?_⟩, hg⟩
 ·have e1 : (swapL xs i j x y).length = xs.length := by simp [swapL]
  have e2 : (swapL xs i j x y).map KV.val = ((xs.map KV.val).set i y.val).set j x.val := by simp [swapL, List.map_set]
  rw [e1, e2]; exact s2
 ·obtain ⟨z1, z2, z3, z4⟩ := h.good z (hp.mem_iff.1 hz)
  exact ⟨z1, z2, z3, hg.cell z4 (fun e => z1 (by injection e))⟩
theorem eg79 : ∀ args w, (callFunc 163 args).run Tryz.prog w = .ok (.enter 163 args) w := enters_of Tryz.func163 (by kernel_rfl) rfl
theorem less_any (x y : KV) (W : World) (hx : 1 ≤ x.n ∧ x.n < 4611686018427387904 ∧ W.cell? ⟨x.b, x.off, none⟩ = some (.int .i64 x.key)) (hy : 1 ≤ y.n ∧ y.n < 4611686018427387904 ∧ W.cell? ⟨y.b, y.off, none⟩ = some (.int .i64 y.key)) :
  Drawn Tryz.prog 163 #[x.val, y.val] W (.int .i64 (cmpI x.key y.key)) := by
 obtain ⟨x1, x2, x3⟩ := hx
 obtain ⟨y1, y2, y3⟩ := hy
 obtain ⟨xb, xo, xn, xc, xk, xi⟩ := x
 obtain ⟨yb, yo, yn, yc, yk, yi⟩ := y
 simp only at x1 x2 x3 y1 y2 y3
 unfold KV.val
 simp only
 have hxn : (0 : Int) < xn := by omega
 have hyn : (0 : Int) < yn := by omega
 have HC := Lh (Compare64_any xk yk)
 unfold Drawn
 go_enter Tryz.func163, Tryz.ntmps163
 go_wp2_with (go_quiet ((go_at_call 159; exact HC.out.quiet)))
 go_ret
 exact ⟨rfl, _, rfl⟩
theorem Drawn.at_ {P : Program} {f : FuncId} {args : Array Value} {w : World} {v : Value} (h : ∀ q, Drawn P f args (w.drewN q) v) (q : Nat) : Calls P f args (w.drewN q) fun e w'' => e = .returned v ∧ ∃ m, w'' = w.drewN m :=
 Calls.mono (h q) fun e w' ⟨he, n, hn⟩ => ⟨he, q + n, by rw [hn, World.drewN_drewN]⟩
theorem KSt.less {W : World} {base g cap : Nat} {xs : List KV} (h : KSt W base g cap xs) {i j : Nat} {x y : KV} (hi : xs[i]? = some x) (hj : xs[j]? = some y) (q : Nat) :
  Calls Tryz.prog 163 #[x.val, y.val] (W.drewN q) fun e w'' => e = .returned (.int .i64 (cmpI x.key y.key)) ∧ ∃ m, w'' = W.drewN m :=
 Drawn.at_ (fun q => less_any x y _ (h.key hi) (h.key hj)) q
theorem cmpI_lt {x y : Int} (h : x < y) : cmpI x y < 0 := by unfold cmpI; rw [if_pos h]; omega
theorem cmpI_nlt {x y : Int} (h : ¬ x < y) : ¬ cmpI x y < 0 := by unfold cmpI; rw [if_neg h]; split <;> omega
def KEnd (W : World) (base g cap : Nat) (R : List KV → Prop) (e : Ending) (w' : World) : Prop := e = .returned (.tuple #[]) ∧ ∃ ys, R ys ∧ KSt w' base g cap ys ∧ W.grownBy w' (some g)
def KGo (W : World) (base g cap : Nat) (ys : List KV) (w' : World) : Prop := KSt w' base g cap ys ∧ W.grownBy w' (some g)
theorem KGo.start {W : World} {base g cap : Nat} {xs : List KV} (h : KSt W base g cap xs) : KGo W base g cap xs W := ⟨h, ⟨rfl, rfl, rfl, Nat.le_refl _, fun _ _ _ => rfl⟩⟩
theorem grownBy_from {W w : World} {r : Option Nat} {q : Nat} (h : (W.drewN q).grownBy w r) : W.grownBy w r := ⟨h.os, h.tape, h.output, h.size, h.block⟩
theorem grownBy_to {W w : World} {r : Option Nat} (h : W.grownBy w r) (q : Nat) : W.grownBy (w.drewN q) r := ⟨h.os, h.tape, h.output, h.size, h.block⟩
theorem KGo.swap {W w : World} {base g cap : Nat} {xs : List KV} (h : KGo W base g cap xs w) (q : Nat) {i j : Nat} {x y : KV} (hi : xs[i]? = some x) (hj : xs[j]? = some y) :
  KGo W base g cap (swapL xs i j x y) (((w.drewN q).setCell ⟨g, i, none⟩ y.val).setCell ⟨g, j, none⟩ x.val) := by
 obtain ⟨h1, h2⟩ := (h.1.drewN q).swap hi hj
 exact ⟨h1, World.grownBy.trans h.2 (grownBy_from h2)⟩
theorem KGo.swp {W w : World} {base g cap : Nat} {xs : List KV} (h : KGo W base g cap xs w) {i j : Nat} {x y : KV} (hi : xs[i]? = some x) (hj : xs[j]? = some y) :
  KGo W base g cap (swapL xs i j x y) (((w.setCell ⟨g, i, none⟩ y.val).setCell ⟨g, j, none⟩ x.val).drew) := by
 obtain ⟨h1, h2⟩ := h.1.swap hi hj
 have h3 := World.grownBy.trans h.2 h2
 exact ⟨⟨h1.row, h1.good⟩, ⟨h3.os, h3.tape, h3.output, h3.size, h3.block⟩⟩
theorem KGo.drewN {W w : World} {base g cap : Nat} {xs : List KV} (h : KGo W base g cap xs w) (q : Nat) : KGo W base g cap xs (w.drewN q) := ⟨h.1.drewN q, grownBy_to h.2 q⟩
theorem KGo.call {W w w' : World} {base g cap : Nat} {xs ys : List KV} (h : KGo W base g cap xs w) (h1 : KSt w' base g cap ys) (h2 : w.grownBy w' (some g)) : KGo W base g cap ys w' := ⟨h1, World.grownBy.trans h.2 h2⟩
theorem ins_any (base g cap a b : Nat) (xs0 : List KV) (W : World) (hK : Hid (KSt W base g cap xs0)) (hix : Hid (IxB xs0 a b)) (hab : b ≤ xs0.length) (ha : a ≤ b) (hn : xs0.length < 1099511627776) :
  Calls Tryz.prog 222 #[.slice (some ⟨g, 0, none⟩) xs0.length cap, .int .i64 a, .int .i64 b, .func (.func 163) #[] #[]] W (KEnd W base g cap fun ys => Rch a b xs0 ys ∧ SrtB ys a b) := by
 have eg := eg79
 go_enter Tryz.func222, Tryz.ntmps222
 go_wp2_with fail
 go_loopw [8] (fun iv wr => ∃ (i : Nat) (xs : List KV), iv = .int .i64 i ∧ a + 1 ≤ i ∧ i ≤ b + 1 ∧ Hid (InsO a b xs0 xs i) ∧ Hid (KGo W base g cap xs wr)) (fun iv _ => b + 1 - (intOf iv).toNat)
 case atStart => exact ⟨a + 1, xs0, by go_num, Nat.le_refl _, by omega, Lh (InsO.start hix.out _ (Nat.le_refl _)), Lh (KGo.start hK.out)⟩
 case round =>
 obtain ⟨i, xs, rfl, hi1, hi2, HI, HG⟩ := hrel
 have hxl := HI.out.1.len
 by_cases hib : i < b
 ·have HJ := Lh (HI.out.go (by omega))
  go_wp2_with fail
  go_loopw [9] (fun jv wr => ∃ (j : Nat) (ys : List KV), jv = .int .i64 j ∧ a ≤ j ∧ j ≤ i ∧ Hid (InsI a b xs0 ys i j) ∧ Hid (KGo W base g cap ys wr)) (fun jv _ => (intOf jv).toNat)
  case atStart => exact ⟨i, xs, rfl, by omega, Nat.le_refl _, HJ, HG⟩
  case round =>
  obtain ⟨j0, ys, rfl, hj1, hj2, HJ, HG⟩ := hrel
  have hyl := HJ.out.1.len
  by_cases hja : a < j0
  ·obtain ⟨j, rfl⟩ : ∃ j, j0 = j + 1 := ⟨j0 - 1, by omega⟩
   obtain ⟨x, hx⟩ := get_of_lt (xs := ys) (i := j + 1) (by omega)
   obtain ⟨y, hy⟩ := get_of_lt (xs := ys) (i := j) (by omega)
   have hc1 := HG.out.1.at_ hx
   have hc2 := HG.out.1.at_ hy
   have hf1 := HG.out.1.row.frozenAt j
   have hf2 := HG.out.1.row.frozenAt (j + 1)
   have HL := Lh (HG.out.1.less hx hy)
   have hja' : (a : Int) < (j : Int) + 1 := by omega
   by_cases hk : x.key < y.key
   ·have hcm := cmpI_lt hk
    have HJ2 := Lh (HJ.out.down hib (by omega) hx (by simpa using hy) hk)
    rw [Nat.add_sub_cancel] at HJ2
    have HX := Lh hx
    have HY := Lh hy
    clear hx hy hk
    go_wp2_with (go_quiet ((go_at_call 163; exact HL.out _)))
    have HG2 := Lh (HG.out.drewN nq)
    clear hc1 hc2 hf1 hf2
    generalize wr.drewN nq = w2 at HG2 ⊢
    have hc1 := HG2.out.1.at_ HX.out
    have hc2 := HG2.out.1.at_ HY.out
    have hf1 := HG2.out.1.row.frozenAt j
    have hf2 := HG2.out.1.row.frozenAt (j + 1)
    have hc3 := HG2.out.1.st1 (i := j + 1) y.val HY.out (by omega)
    have HSW := Lh (HG2.out.swp HX.out HY.out)
    unfold KV.val at hc1 hc2 hc3
    have mixed : Tryz.prog.follows .mixedOrders = true := by kernel_rfl
    go_big_region_o
    clear hc1 hc2 hc3 hf1 hf2
    go_wp2_with fail
    exact ⟨⟨j, _, by go_num, by omega, by omega, HJ2, HSW⟩, by simp [intOf]⟩
   ·have hcm := cmpI_nlt hk
    have HI2 := Lh (HJ.out.done hix.out hib (.inr ⟨x, y, hx, by simpa using hy, hk⟩))
    clear hx hy hk
    go_wp2_with (go_quiet ((go_at_call 163; exact HL.out _)))
    exact ⟨⟨i + 1, ys, by go_num, by omega, by omega, HI2, Lh (HG.out.drewN _)⟩, by simp [intOf]; omega⟩
  ·obtain rfl : j0 = a := by omega
   have HI2 := Lh (HJ.out.done hix.out hib (.inl rfl))
   go_wp2_with (go_quiet (fail))
   exact ⟨⟨i + 1, ys, by go_num, by omega, by omega, HI2, Lh (HG.out.drewN _)⟩, by simp [intOf]; omega⟩
 ·have hnb : ¬ ((i : Int) < b) := by omega
  go_wp2_with fail
  go_end0
  exact ⟨rfl, xs, ⟨HI.out.1, fun p q u v h1 h2 h3 => HI.out.2.1 p q u v h1 h2 (by omega)⟩, HG.out.1, HG.out.2⟩
theorem swr_any (base g cap a b n : Nat) (xs0 : List KV) (W : World) (hK : Hid (KSt W base g cap xs0)) (hab : a + n ≤ b) (hb : b + n ≤ xs0.length) (hn : xs0.length < 1099511627776) (cv : Value) :
  Calls Tryz.prog 245 #[.slice (some ⟨g, 0, none⟩) xs0.length cap, .int .i64 a, .int .i64 b, .int .i64 n, cv] W (KEnd W base g cap fun ys => Rch a (b + n) xs0 ys ∧ SwI xs0 ys a b n) := by
 go_enter Tryz.func245, Tryz.ntmps245
 go_wp2_with fail
 go_loopw [10] (fun iv wr => ∃ (k : Nat) (xs : List KV), iv = .int .i64 k ∧ k ≤ n ∧ Hid (Rch a (b + n) xs0 xs) ∧ Hid (SwI xs0 xs a b k) ∧ Hid (KGo W base g cap xs wr)) (fun iv _ => n - (intOf iv).toNat)
 case atStart => exact ⟨0, xs0, rfl, Nat.zero_le _, Lh (Rch.refl _ _ _), Lh (SwI.start _ _ _), Lh (KGo.start hK.out)⟩
 case round =>
 obtain ⟨k, xs, rfl, hk, HR, HI, HG⟩ := hrel
 have hxl := HR.out.len
 by_cases hlt : k < n
 ·obtain ⟨pa, hpa⟩ : ∃ p : Nat, a + k = p := ⟨_, rfl⟩
  obtain ⟨pb, hpb⟩ : ∃ p : Nat, b + k = p := ⟨_, rfl⟩
  have hk1 : (a : Int) + (k : Int) = (pa : Int) := by omega
  have hk2 : (b : Int) + (k : Int) = (pb : Int) := by omega
  have hlp : pa < xs0.length ∧ pb < xs0.length := by omega
  obtain ⟨hlp1, hlp2⟩ := hlp
  obtain ⟨x, hx⟩ := get_of_lt (xs := xs) (i := pa) (by omega)
  obtain ⟨y, hy⟩ := get_of_lt (xs := xs) (i := pb) (by omega)
  have hc1 := HG.out.1.at_ hx
  have hc2 := HG.out.1.at_ hy
  have hf1 := HG.out.1.row.frozenAt pa
  have hf2 := HG.out.1.row.frozenAt pb
  have hc3 := HG.out.1.st1 (i := pa) y.val hy (by omega)
  unfold KV.val at hc1 hc2 hc3
  have HSW := Lh (HG.out.swp hx hy)
  have HR2 := Lh (HR.out.trans (Rch.swap hx hy (by omega) (by omega) (by omega) (by omega) (by omega)))
  have HI2 : Hid (SwI xs0 (swapL xs pa pb x y) a b (k + 1)) := by
   have := HI.out.next (x := x) (y := y) (by omega) (by rw [hpa]; exact hx) (by rw [hpb]; exact hy)
   rw [hpa, hpb] at this
   exact this
  have hne : pa ≠ pb := by omega
  have mixed : Tryz.prog.follows .mixedOrders = true := by kernel_rfl
  clear hpa hpb
  clear hx hy
  go_wp2_with fail
  go_big_region_o
  clear hc1 hc2 hc3 hf1 hf2
  go_wp2_with fail
  exact ⟨⟨k + 1, _, by go_num, by omega, HR2, HI2, HSW⟩, by simp [intOf]; omega⟩
 ·have hnb : ¬ ((k : Int) < n) := by omega
  obtain rfl : k = n := by omega
  go_wp2_with fail
  go_end0
  exact ⟨rfl, xs, ⟨HR.out, HI.out⟩, HG.out.1, HG.out.2⟩
theorem rot_any (base g cap a m b : Nat) (xs0 : List KV) (W : World) (hK : Hid (KSt W base g cap xs0)) (ham : a < m) (hmb : m < b) (hb : b ≤ xs0.length) (hn : xs0.length < 1099511627776) (cv : Value) :
  Calls Tryz.prog 236 #[.slice (some ⟨g, 0, none⟩) xs0.length cap, .int .i64 a, .int .i64 m, .int .i64 b, cv] W (KEnd W base g cap fun ys => Rch a b xs0 ys ∧ ∀ p, ys[p]? = RotT xs0 a m b p) := by
 obtain ⟨T, hT⟩ : ∃ T, RotT xs0 a m b = T := ⟨_, rfl⟩
 have HT : Hid (RotS T xs0 m (m - a) (b - m)) := by rw [← hT]; exact RotS.start (by omega) (by omega)
 have HTT := Lh hT
 clear hT
 obtain ⟨i0, hi0⟩ : ∃ p : Nat, m - a = p := ⟨_, rfl⟩
 obtain ⟨j0, hj0⟩ : ∃ p : Nat, b - m = p := ⟨_, rfl⟩
 have e1 : (m : Int) - (a : Int) = (i0 : Int) := by omega
 have e2 : (b : Int) - (m : Int) = (j0 : Int) := by omega
 rw [hi0, hj0] at HT
 go_enter Tryz.func236, Tryz.ntmps236
 go_wp2_with fail
 go_loopw [10, 11] (fun iv jv wr => ∃ (i j : Nat) (xs : List KV), iv = .int .i64 i ∧ jv = .int .i64 j ∧ 1 ≤ i ∧ 1 ≤ j ∧ a + i ≤ m ∧ m + j ≤ b ∧ Hid (Rch a b xs0 xs) ∧ Hid (RotS T xs m i j) ∧ Hid (KGo W base g cap xs wr)) (fun iv jv _ => (intOf iv).toNat + (intOf jv).toNat)
 case atStart => exact ⟨i0, j0, xs0, rfl, rfl, by omega, by omega, by omega, by omega, Lh (Rch.refl _ _ _), HT, Lh (KGo.start hK.out)⟩
 case round =>
 obtain ⟨i, j, xs, rfl, rfl, hi1, hj1, hi2, hj2, HR, HI, HG⟩ := hrel
 have hxl := HR.out.len
 obtain ⟨mi, hmi⟩ : ∃ p : Nat, m - i = p := ⟨_, rfl⟩
 have e3 : (m : Int) - (i : Int) = (mi : Int) := by omega
 by_cases hij : i = j
 ·subst hij
  have hne : ((i : Int) != (i : Int)) = false := by simp
  go_wp2_with fail
  rw [← hxl]
  refine (swr_any base g cap mi m i xs wr (Lh HG.out.1) (by omega) (by omega) (by omega) _).mono ?_
  rintro e w2 ⟨rfl, ys, ⟨r1, r2⟩, r3, r4⟩; rw [← hmi] at r1 r2
  go_wp2_with fail
  go_end0
  exact ⟨rfl, ys, ⟨HR.out.trans (r1.mono (by omega) (by omega)), fun p => by rw [HTT.out]; exact HI.out.done r2 p⟩, (HG.out.call r3 r4).1, (HG.out.call r3 r4).2⟩
 ·have hne : ((i : Int) != (j : Int)) = true := by simp; omega
  by_cases hgt : j < i
  ·have hgt' : (j : Int) < i := by omega
   obtain ⟨ij, hij'⟩ : ∃ p : Nat, i - j = p := ⟨_, rfl⟩
   have e4 : (i : Int) - (j : Int) = (ij : Int) := by omega
   go_wp2_with fail
   rw [← hxl]
   refine (swr_any base g cap mi m j xs wr (Lh HG.out.1) (by omega) (by omega) (by omega) _).mono ?_
   rintro e w2 ⟨rfl, ys, ⟨r1, r2⟩, r3, r4⟩; rw [← hmi] at r1 r2
   have HE := Lh (HG.out.call r3 r4)
   have HR2 := Lh (HR.out.trans (r1.mono (by omega) (by omega)))
   have HI2 := Lh (HI.out.left hgt r2)
   rw [hij'] at HI2
   clear r1 r2 r3 r4
   rw [hxl]
   go_wp2_with fail
   exact ⟨⟨ij, j, ys, rfl, rfl, by omega, hj1, by omega, hj2, HR2, HI2, HE⟩, by simp [intOf]; omega⟩
  ·have hgt' : ¬ (j : Int) < i := by omega
   obtain ⟨ji, hji⟩ : ∃ p : Nat, j - i = p := ⟨_, rfl⟩
   have e4 : (j : Int) - (i : Int) = (ji : Int) := by omega
   obtain ⟨mj, hmj⟩ : ∃ p : Nat, m + j - i = p := ⟨_, rfl⟩
   have e5 : (m : Int) + (j : Int) - (i : Int) = (mj : Int) := by omega
   go_wp2_with fail
   rw [← hxl]
   refine (swr_any base g cap mi mj i xs wr (Lh HG.out.1) (by omega) (by omega) (by omega) _).mono ?_
   rintro e w2 ⟨rfl, ys, ⟨r1, r2⟩, r3, r4⟩; rw [← hmi] at r1 r2
   have HE := Lh (HG.out.call r3 r4)
   have HR2 := Lh (HR.out.trans (r1.mono (by omega) (by omega)))
   rw [← hmj] at r2
   have HI2 := Lh (HI.out.right (by omega) r2)
   rw [hji] at HI2
   clear r1 r2 r3 r4
   rw [hxl]
   go_wp2_with fail
   exact ⟨⟨i, ji, ys, rfl, rfl, hi1, by omega, hi2, by omega, HR2, HI2, HE⟩, by simp [intOf]; omega⟩
theorem u64_id {x : Int} (h0 : 0 ≤ x) (h1 : x ≤ 9223372036854775807) : IntKind.u64.wrap x = x := by
 show x % 18446744073709551616 = x
 omega
theorem half_nat (i j : Nat) (h : i < j) (hb : j < 1099511627776) : ∃ k : Nat, i ≤ k ∧ k < j ∧ IntKind.u64.wrap ((i : Int) + (j : Int)) = (i : Int) + (j : Int) ∧ ((i : Int) + (j : Int)) / 2 = (k : Int) :=
 ⟨(i + j) / 2, by omega, by omega, u64_id (by omega) (by omega), by omega⟩
theorem sym_any (base g cap : Nat) (N : Nat) : ∀ (a m b : Nat) (xs0 : List KV) (W : World), b - a ≤ N → Hid (KSt W base g cap xs0) → a < m → m < b → b ≤ xs0.length → xs0.length < 1099511627776 →
  Hid (SrtB xs0 a m) → Hid (SrtB xs0 m b) → Hid (IxX xs0 a m b) →
  Calls Tryz.prog 223 #[.slice (some ⟨g, 0, none⟩) xs0.length cap, .int .i64 a, .int .i64 m, .int .i64 b, .func (.func 163) #[] #[]] W (KEnd W base g cap fun ys => Rch a b xs0 ys ∧ SrtB ys a b) := by
 induction N with
 | zero => intro a m b xs0 W h; omega
 | succ N ih =>
 intro a m b xs0 W hN hK ham hmb hb hn S1 S2 HX
 have eg := eg79
 have IH := Lh ih
 clear ih
 by_cases hma : m - a = 1
 ·have hm : Hid (m = a + 1) := Lh (by omega)
  have hm1 : ((m : Int) - (a : Int) == 1) = true := by rw [beq_iff_eq]; omega
  obtain ⟨x, hx⟩ := get_of_lt (xs := xs0) (i := a) (by omega)
  have HXA := Lh hx
  go_enter Tryz.func223, Tryz.ntmps223
  go_wp2_with fail
  go_loopw [10, 11] (fun iv jv wr => ∃ i j : Nat, Hid (KGo W base g cap xs0 wr) ∧ iv = .int .i64 i ∧ jv = .int .i64 j ∧ m ≤ i ∧ i ≤ j ∧ j ≤ b ∧ Hid (B1 xs0 m b x.key i j)) (fun iv jv _ => (intOf jv).toNat - (intOf iv).toNat)
  case atStart => exact ⟨m, b, Lh (KGo.start hK.out), rfl, rfl, Nat.le_refl _, by omega, Nat.le_refl _, Lh (B1.start _ _ (by omega))⟩
  case round =>
  obtain ⟨i, j, HG0, rfl, rfl, hi1, hi2, hj2, HB⟩ := hrel
  by_cases hij : i < j
  ·obtain ⟨h, h1, h2, h3, h4⟩ := half_nat i j hij (by omega)
   obtain ⟨y, hy⟩ := get_of_lt (xs := xs0) (i := h) (by omega)
   have hc1 := HG0.out.1.at_ HXA.out
   have hc2 := HG0.out.1.at_ hy
   have HL := Lh (HG0.out.1.less hy HXA.out)
   have HY := Lh hy
   have hbl : h < xs0.length := by omega
   have hbl2 : a < xs0.length := by omega
   clear hy hx
   by_cases hk : y.key < x.key
   ·have hcm := cmpI_lt hk
    have HB2 := Lh (HB.out.up S2.out h1 h2 HY.out hk)
    clear hk
    go_wp2_with (go_quiet ((go_at_call 163; exact HL.out _)))
    exact ⟨⟨h + 1, j, Lh (HG0.out.drewN _), by go_num, rfl, by omega, by omega, hj2, HB2⟩, by simp [intOf]; omega⟩
   ·have hcm := cmpI_nlt hk
    have HB2 := Lh (HB.out.down S2.out h1 h2 HY.out hk)
    clear hk
    go_wp2_with (go_quiet ((go_at_call 163; exact HL.out _)))
    exact ⟨⟨i, h, Lh (HG0.out.drewN _), rfl, rfl, by omega, by omega, by omega, HB2⟩, by simp [intOf]; omega⟩
  ·have hnij : ¬ ((i : Int) < j) := by omega
   obtain rfl : i = j := by omega
   obtain ⟨i1, hi1'⟩ : ∃ p : Nat, i - 1 = p := ⟨_, rfl⟩
   have ei : (i : Int) - 1 = (i1 : Int) := by omega
   clear hx
   go_wp2_with fail
   go_loopw [13] (fun kv wr => ∃ (k : Nat) (xs : List KV), kv = .int .i64 k ∧ a ≤ k ∧ k ≤ i1 ∧ Hid (MvU xs0 xs a k) ∧ Hid (Rch a b xs0 xs) ∧ Hid (KGo W base g cap xs wr)) (fun kv _ => i - (intOf kv).toNat)
   case atStart => exact ⟨a, xs0, rfl, Nat.le_refl _, by omega, Lh (MvU.start _ _), Lh (Rch.refl _ _ _), HG0⟩
   case round =>
   obtain ⟨k, xs, rfl, hk1, hk2, HM, HR, HG⟩ := hrel
   have hxl := HR.out.len
   by_cases hlt : k < i1
   ·obtain ⟨u, hu⟩ := get_of_lt (xs := xs) (i := k) (by omega)
    obtain ⟨v, hv⟩ := get_of_lt (xs := xs) (i := k + 1) (by omega)
    have hc1 := HG.out.1.at_ hu
    have hc2 := HG.out.1.at_ hv
    have hf1 := HG.out.1.row.frozenAt k
    have hf2 := HG.out.1.row.frozenAt (k + 1)
    have hc3 := HG.out.1.st1 (i := k) v.val hv (by omega)
    unfold KV.val at hc1 hc2 hc3
    have HSW := Lh (HG.out.swp hu hv)
    have HR2 := Lh (HR.out.trans (Rch.swap hu hv (by omega) (by omega) (by omega) (by omega) (by omega)))
    have HM2 := Lh (HM.out.next hu hv)
    have hkl : k + 1 < xs0.length := by omega
    have mixed : Tryz.prog.follows .mixedOrders = true := by kernel_rfl
    clear hu hv
    go_wp2_with fail
    go_big_region_o
    clear hc1 hc2 hc3 hf1 hf2
    go_wp2_with fail
    exact ⟨⟨k + 1, _, by go_num, by omega, by omega, HM2, HR2, HSW⟩, by simp [intOf]; omega⟩
   ·have hnk : ¬ ((k : Int) < (i1 : Int)) := by omega
    obtain rfl : k = i1 := by omega
    go_wp2_with fail
    go_end0
    exact ⟨rfl, xs, ⟨HR.out, MvU.done (i := i) HXA.out (hm.out ▸ S2.out) (hm.out ▸ HX.out) (hm.out ▸ HB.out) (by rw [hi1']; exact HM.out)⟩, HG.out.1, HG.out.2⟩
 have hm1 : ((m : Int) - (a : Int) == 1) = false := by rw [beq_eq_false_iff_ne]; omega
 by_cases hbm : b - m = 1
 ·have hbm1 : Hid (b = m + 1) := Lh (by omega)
  have hm2 : ((b : Int) - (m : Int) == 1) = true := by rw [beq_iff_eq]; omega
  obtain ⟨x, hx⟩ := get_of_lt (xs := xs0) (i := m) (by omega)
  have HXA := Lh hx
  go_enter Tryz.func223, Tryz.ntmps223
  go_wp2_with fail
  go_loopw [14, 15] (fun iv jv wr => ∃ i j : Nat, Hid (KGo W base g cap xs0 wr) ∧ iv = .int .i64 i ∧ jv = .int .i64 j ∧ a ≤ i ∧ i ≤ j ∧ j ≤ m ∧ Hid (B2 xs0 a m x.key i j)) (fun iv jv _ => (intOf jv).toNat - (intOf iv).toNat)
  case atStart => exact ⟨a, m, Lh (KGo.start hK.out), rfl, rfl, Nat.le_refl _, by omega, Nat.le_refl _, Lh (B2.start _ _ (by omega))⟩
  case round =>
  obtain ⟨i, j, HG0, rfl, rfl, hi1, hi2, hj2, HB⟩ := hrel
  by_cases hij : i < j
  ·obtain ⟨h, h1, h2, h3, h4⟩ := half_nat i j hij (by omega)
   obtain ⟨y, hy⟩ := get_of_lt (xs := xs0) (i := h) (by omega)
   have hc1 := HG0.out.1.at_ HXA.out
   have hc2 := HG0.out.1.at_ hy
   have HL := Lh (HG0.out.1.less HXA.out hy)
   have HY := Lh hy
   have hbl : h < xs0.length := by omega
   have hbl2 : m < xs0.length := by omega
   clear hy hx
   by_cases hk : x.key < y.key
   ·have hcm := cmpI_lt hk
    have HB2 := Lh (HB.out.down S1.out h1 h2 HY.out hk)
    clear hk
    go_wp2_with (go_quiet ((go_at_call 163; exact HL.out _)))
    exact ⟨⟨i, h, Lh (HG0.out.drewN _), rfl, rfl, by omega, by omega, by omega, HB2⟩, by simp [intOf]; omega⟩
   ·have hcm := cmpI_nlt hk
    have HB2 := Lh (HB.out.up S1.out h1 h2 HY.out hk)
    clear hk
    go_wp2_with (go_quiet ((go_at_call 163; exact HL.out _)))
    exact ⟨⟨h + 1, j, Lh (HG0.out.drewN _), by go_num, rfl, by omega, by omega, hj2, HB2⟩, by simp [intOf]; omega⟩
  ·have hnij : ¬ ((i : Int) < j) := by omega
   obtain rfl : i = j := by omega
   clear hx
   go_wp2_with fail
   go_loopw [17] (fun kv wr => ∃ (k : Nat) (xs : List KV), kv = .int .i64 k ∧ i ≤ k ∧ k ≤ m ∧ Hid (MvD xs0 xs m k) ∧ Hid (Rch a b xs0 xs) ∧ Hid (KGo W base g cap xs wr)) (fun kv _ => (intOf kv).toNat)
   case atStart => exact ⟨m, xs0, rfl, by omega, Nat.le_refl _, Lh (MvD.start _ _), Lh (Rch.refl _ _ _), HG0⟩
   case round =>
   obtain ⟨k0, xs, rfl, hk1, hk2, HM, HR, HG⟩ := hrel
   have hxl := HR.out.len
   by_cases hlt : i < k0
   ·obtain ⟨k, rfl⟩ : ∃ k, k0 = k + 1 := ⟨k0 - 1, by omega⟩
    obtain ⟨u, hu⟩ := get_of_lt (xs := xs) (i := k + 1) (by omega)
    obtain ⟨v, hv⟩ := get_of_lt (xs := xs) (i := k) (by omega)
    have hc1 := HG.out.1.at_ hu
    have hc2 := HG.out.1.at_ hv
    have hf1 := HG.out.1.row.frozenAt k
    have hf2 := HG.out.1.row.frozenAt (k + 1)
    have hc3 := HG.out.1.st1 (i := k + 1) v.val hv (by omega)
    unfold KV.val at hc1 hc2 hc3
    have HSW := Lh (HG.out.swp hu hv)
    have HR2 := Lh (HR.out.trans (Rch.swap hu hv (by omega) (by omega) (by omega) (by omega) (by omega)))
    have HM2 := Lh (HM.out.next (by omega) hu (by simpa using hv))
    rw [Nat.add_sub_cancel] at HM2
    have hkl : k + 1 < xs0.length := by omega
    have hik : (i : Int) < (k : Int) + 1 := by omega
    have mixed : Tryz.prog.follows .mixedOrders = true := by kernel_rfl
    clear hu hv
    go_wp2_with fail
    go_big_region_o
    clear hc1 hc2 hc3 hf1 hf2
    go_wp2_with fail
    exact ⟨⟨k, _, by go_num, by omega, by omega, HM2, HR2, HSW⟩, by simp [intOf]⟩
   ·have hnk : ¬ ((i : Int) < (k0 : Int)) := by omega
    obtain rfl : k0 = i := by omega
    go_wp2_with fail
    go_end0
    exact ⟨rfl, xs, ⟨HR.out, hbm1.out ▸ HM.out.done HXA.out S1.out (hbm1.out ▸ HX.out) HB.out⟩, HG.out.1, HG.out.2⟩
 have hm2 : ((b : Int) - (m : Int) == 1) = false := by rw [beq_eq_false_iff_ne]; omega
 obtain ⟨mid, k1, k2, k3, k4⟩ := half_nat a b (by omega) (by omega)
 have HMID : Hid (mid = (a + b) / 2) := Lh (by omega)
 obtain ⟨n0, hn0⟩ : ∃ p : Nat, mid + m = p := ⟨_, rfl⟩
 obtain ⟨p0, hp0⟩ : ∃ p : Nat, mid + m - 1 = p := ⟨_, rfl⟩
 have en : (mid : Int) + (m : Int) = (n0 : Int) := by omega
 have ep : (n0 : Int) - 1 = (p0 : Int) := by omega
 have HP0 := Lh hp0
 have hmid2 : 2 * mid ≤ a + b ∧ a + b ≤ 2 * mid + 1 := by omega
 clear hn0 hp0
 by_cases hmm : m ≤ mid
 ·have hmm' : ¬ ((mid : Int) < m) := by omega
  go_enter Tryz.func223, Tryz.ntmps223
  go_wp2_with fail
  go_loopw [20, 21] (fun sv rv wr => ∃ s r : Nat, Hid (KGo W base g cap xs0 wr) ∧ sv = .int .i64 s ∧ rv = .int .i64 r ∧ a ≤ s ∧ s ≤ r ∧ r ≤ m ∧ Hid (B3 xs0 p0 (a) (m) s r)) (fun sv rv _ => (intOf rv).toNat - (intOf sv).toNat)
  case atStart => exact ⟨a, m, Lh (KGo.start hK.out), rfl, rfl, Nat.le_refl _, by omega, Nat.le_refl _, Lh (B3.start _ (by omega))⟩
  case round =>
  obtain ⟨s, r, HG0, rfl, rfl, hs1, hs2, hr2, HB⟩ := hrel
  by_cases hij : s < r
  ·obtain ⟨h, h1, h2, h3, h4⟩ := half_nat s r hij (by omega)
   obtain ⟨x, hx⟩ := get_of_lt (xs := xs0) (i := h) (by omega)
   obtain ⟨ph, hph⟩ : ∃ p : Nat, p0 - h = p := ⟨_, rfl⟩
   obtain ⟨y, hy⟩ := get_of_lt (xs := xs0) (i := ph) (by omega)
   have eh : (p0 : Int) - (h : Int) = (ph : Int) := by omega
   have HPH := Lh hph
   clear hph
   have hc1 := HG0.out.1.at_ hx
   have hc2 := HG0.out.1.at_ hy
   have HL := Lh (HG0.out.1.less hy hx)
   have HX1 := Lh hx
   have HY1 := Lh hy
   have hb1 : h < xs0.length := by omega
   have hb2 : ph < xs0.length := by omega
   clear hy hx
   by_cases hk : y.key < x.key
   ·have hcm := cmpI_lt hk
    have HB2 := Lh (HB.out.down S1.out S2.out (by omega) (by omega) (by omega) (by omega) h1 h2 HX1.out (by rw [HPH.out]; exact HY1.out) hk)
    clear hk
    go_wp2_with (go_quiet ((go_at_call 163; exact HL.out _)))
    exact ⟨⟨s, h, Lh (HG0.out.drewN _), rfl, rfl, by omega, by omega, by omega, HB2⟩, by simp [intOf]; omega⟩
   ·have hcm := cmpI_nlt hk
    have HB2 := Lh (HB.out.up S1.out S2.out (by omega) (by omega) (by omega) (by omega) h1 h2 HX1.out (by rw [HPH.out]; exact HY1.out) hk)
    clear hk
    go_wp2_with (go_quiet ((go_at_call 163; exact HL.out _)))
    exact ⟨⟨h + 1, r, Lh (HG0.out.drewN _), by go_num, rfl, by omega, by omega, hr2, HB2⟩, by simp [intOf]; omega⟩
  ·have hnij : ¬ ((s : Int) < r) := by omega
   obtain rfl : s = r := by omega
   have HC := Lh (B3.cut (s0 := a) (r0 := m) S1.out S2.out hb ham hmb HMID.out (.inl ⟨hmm, rfl, rfl⟩) (by rw [HP0.out]; exact HB.out))
   obtain ⟨c1, c2, c3, c4, c5, _, _⟩ := HC.out
   have HH := Lh (fun ys hy => HC.out.halves (ys := ys) S1.out S2.out HX.out hy)
   obtain ⟨e, he⟩ : ∃ e, mid + m - s = e := ⟨_, rfl⟩
   have ee : (n0 : Int) - (s : Int) = (e : Int) := by omega
   rw [he] at HH c4 c5
   have HE0 := Lh he
   clear he
   by_cases g1 : s < m ∧ m < e
   ·have gi1 : (s : Int) < m := by omega
    have gi2 : (m : Int) < e := by omega
    have gi4 : (s : Int) < mid := by omega
    have gi5 : (mid : Int) < e := by omega
    by_cases g2 : a < s <;> by_cases g3 : e < b
    ·have gi3 : (a : Int) < s := by omega
     have gi6 : (e : Int) < b := by omega
     go_wp2_with fail
     refine (rot_any base g cap s m e xs0 _ (Lh HG0.out.1) (by omega) (by omega) (by omega) hn _).mono ?_
     rintro e1 w2 ⟨rfl, ys, ⟨r1, r2⟩, r3, r4⟩
     have HG := Lh (HG0.out.call r3 r4)
     have HR := Lh (r1.mono c1 c4)
     have HY := Lh r2
     have hyl := r1.len
     clear r1 r2 r3 r4
     obtain ⟨q1, q2, q3, q4, q5, q6, q7⟩ := HH.out ys HY.out
     have Q1 := Lh q1; have Q2 := Lh q2; have Q3 := Lh q3; have Q4 := Lh q4; have Q5 := Lh q5; have Q6 := Lh q6; have Q7 := Lh q7
     clear q1 q2 q3 q4 q5 q6 q7
     go_wp2_with fail
     rw [← hyl]
     refine (IH.out a s mid ys _ (by omega) (Lh HG.out.1) (by omega) (by omega) (by omega) (by omega) Q1 Q2 Q3).mono ?_
     rintro e1 w3 ⟨rfl, zs, ⟨t1, t2⟩, t3, t4⟩
     have HGz := Lh (HG.out.call t3 t4)
     have HRz := Lh t1
     have HSz := Lh t2
     have hzl := t1.len
     clear t1 t2 t3 t4
     rw [hyl]
     go_wp2_with fail
     rw [show xs0.length = zs.length by omega]
     refine (IH.out mid e b zs _ (by omega) (Lh HGz.out.1) (by omega) (by omega) (by omega) (by omega) (Lh (Q4.out.out HRz.out (.inr (Nat.le_refl _)))) (Lh (Q5.out.out HRz.out (.inr (by omega)))) (Lh (HRz.out.ixx Q6.out (.inl (Nat.le_refl _))))).mono ?_
     rintro e1 w4 ⟨rfl, us, ⟨t1, t2⟩, t3, t4⟩
     have HGu := Lh (HGz.out.call t3 t4)
     have HRu := Lh t1
     have HSu := Lh t2
     clear t1 t2 t3 t4
     go_wp2_with fail
     go_end0
     exact ⟨rfl, us, ⟨(HR.out.trans (HRz.out.mono (Nat.le_refl _) (by omega))).trans (HRu.out.mono (by omega) (Nat.le_refl _)), halves_join Q7.out HRz.out HRu.out HSz.out HSu.out⟩, HGu.out.1, HGu.out.2⟩
    ·have gi3 : (a : Int) < s := by omega
     have gi6 : ¬ (e : Int) < b := by omega
     go_wp2_with fail
     refine (rot_any base g cap s m e xs0 _ (Lh HG0.out.1) (by omega) (by omega) (by omega) hn _).mono ?_
     rintro e1 w2 ⟨rfl, ys, ⟨r1, r2⟩, r3, r4⟩
     have HG := Lh (HG0.out.call r3 r4)
     have HR := Lh (r1.mono c1 c4)
     have HY := Lh r2
     have hyl := r1.len
     clear r1 r2 r3 r4
     obtain ⟨q1, q2, q3, q4, q5, q6, q7⟩ := HH.out ys HY.out
     have Q1 := Lh q1; have Q2 := Lh q2; have Q3 := Lh q3; have Q4 := Lh q4; have Q5 := Lh q5; have Q6 := Lh q6; have Q7 := Lh q7
     clear q1 q2 q3 q4 q5 q6 q7
     go_wp2_with fail
     rw [← hyl]
     refine (IH.out a s mid ys _ (by omega) (Lh HG.out.1) (by omega) (by omega) (by omega) (by omega) Q1 Q2 Q3).mono ?_
     rintro e1 w3 ⟨rfl, zs, ⟨t1, t2⟩, t3, t4⟩
     have HGz := Lh (HG.out.call t3 t4)
     have HRz := Lh t1
     have HSz := Lh t2
     have hzl := t1.len
     clear t1 t2 t3 t4
     rw [hyl]
     go_wp2_with fail
     have HSu : Hid (SrtB zs mid b) := by
      rcases (show mid = e ∨ e = b by omega) with h | h
      ·rw [h]; exact Lh (Q5.out.out HRz.out (.inr (by omega)))
      ·rw [← h]; exact Lh (Q4.out.out HRz.out (.inr (Nat.le_refl _)))
     go_end0
     exact ⟨rfl, zs, ⟨HR.out.trans (HRz.out.mono (Nat.le_refl _) (by omega)), halves_join Q7.out HRz.out (Rch.refl _ _ _) HSz.out HSu.out⟩, HGz.out.1, HGz.out.2⟩
    ·have gi3 : ¬ (a : Int) < s := by omega
     have gi6 : (e : Int) < b := by omega
     go_wp2_with fail
     refine (rot_any base g cap s m e xs0 _ (Lh HG0.out.1) (by omega) (by omega) (by omega) hn _).mono ?_
     rintro e1 w2 ⟨rfl, ys, ⟨r1, r2⟩, r3, r4⟩
     have HG := Lh (HG0.out.call r3 r4)
     have HR := Lh (r1.mono c1 c4)
     have HY := Lh r2
     have hyl := r1.len
     clear r1 r2 r3 r4
     obtain ⟨q1, q2, q3, q4, q5, q6, q7⟩ := HH.out ys HY.out
     have Q1 := Lh q1; have Q2 := Lh q2; have Q3 := Lh q3; have Q4 := Lh q4; have Q5 := Lh q5; have Q6 := Lh q6; have Q7 := Lh q7
     clear q1 q2 q3 q4 q5 q6 q7
     go_wp2_with fail
     have HRz : Hid (Rch a mid ys ys) := Lh (Rch.refl _ _ _)
     have HSz : Hid (SrtB ys a mid) := by
      rcases (show a = s ∨ s = mid by omega) with h | h
      ·rw [h]; exact Q2
      ·rw [← h]; exact Q1
     rw [show xs0.length = ys.length by omega]
     refine (IH.out mid e b ys _ (by omega) (Lh HG.out.1) (by omega) (by omega) (by omega) (by omega) (Lh (Q4.out.out HRz.out (.inr (Nat.le_refl _)))) (Lh (Q5.out.out HRz.out (.inr (by omega)))) (Lh (HRz.out.ixx Q6.out (.inl (Nat.le_refl _))))).mono ?_
     rintro e1 w4 ⟨rfl, us, ⟨t1, t2⟩, t3, t4⟩
     have HGu := Lh (HG.out.call t3 t4)
     have HRu := Lh t1
     have HSu := Lh t2
     clear t1 t2 t3 t4
     go_wp2_with fail
     go_end0
     exact ⟨rfl, us, ⟨(HR.out.trans (HRz.out.mono (Nat.le_refl _) (by omega))).trans (HRu.out.mono (by omega) (Nat.le_refl _)), halves_join Q7.out HRz.out HRu.out HSz.out HSu.out⟩, HGu.out.1, HGu.out.2⟩
    ·have gi3 : ¬ (a : Int) < s := by omega
     have gi6 : ¬ (e : Int) < b := by omega
     go_wp2_with fail
     refine (rot_any base g cap s m e xs0 _ (Lh HG0.out.1) (by omega) (by omega) (by omega) hn _).mono ?_
     rintro e1 w2 ⟨rfl, ys, ⟨r1, r2⟩, r3, r4⟩
     have HG := Lh (HG0.out.call r3 r4)
     have HR := Lh (r1.mono c1 c4)
     have HY := Lh r2
     have hyl := r1.len
     clear r1 r2 r3 r4
     obtain ⟨q1, q2, q3, q4, q5, q6, q7⟩ := HH.out ys HY.out
     have Q1 := Lh q1; have Q2 := Lh q2; have Q3 := Lh q3; have Q4 := Lh q4; have Q5 := Lh q5; have Q6 := Lh q6; have Q7 := Lh q7
     clear q1 q2 q3 q4 q5 q6 q7
     go_wp2_with fail
     have HRz : Hid (Rch a mid ys ys) := Lh (Rch.refl _ _ _)
     have HSz : Hid (SrtB ys a mid) := by
      rcases (show a = s ∨ s = mid by omega) with h | h
      ·rw [h]; exact Q2
      ·rw [← h]; exact Q1
     have HSu : Hid (SrtB ys mid b) := by
      rcases (show mid = e ∨ e = b by omega) with h | h
      ·rw [h]; exact Lh (Q5.out.out HRz.out (.inr (by omega)))
      ·rw [← h]; exact Lh (Q4.out.out HRz.out (.inr (Nat.le_refl _)))
     go_end0
     exact ⟨rfl, ys, ⟨HR.out.trans (HRz.out.mono (Nat.le_refl _) (by omega)), halves_join Q7.out HRz.out (Rch.refl _ _ _) HSz.out HSu.out⟩, HG.out.1, HG.out.2⟩
   by_cases g2 : s < m
   ·have gi1 : (s : Int) < m := by omega
    have gi2 : ¬ (m : Int) < e := by omega
    have gi4 : ¬ (s : Int) < mid := by omega
    have gi5 : (mid : Int) < e := by omega
    have gi6 : (e : Int) < b := by omega
    by_cases g3 : a < s
    ·have gi3 : (a : Int) < s := by omega
     go_wp2_with fail
     have HG := HG0
     have HR : Hid (Rch a b xs0 xs0) := Lh (Rch.refl _ _ _)
     have HY : Hid (∀ p, xs0[p]? = RotT xs0 s m e p) := Lh (rot_same (by omega) (by omega) (by omega))
     obtain ⟨q1, q2, q3, q4, q5, q6, q7⟩ := HH.out xs0 HY.out
     have Q1 := Lh q1; have Q2 := Lh q2; have Q3 := Lh q3; have Q4 := Lh q4; have Q5 := Lh q5; have Q6 := Lh q6; have Q7 := Lh q7
     clear q1 q2 q3 q4 q5 q6 q7
     have HRz : Hid (Rch a mid xs0 xs0) := Lh (Rch.refl _ _ _)
     have HSz : Hid (SrtB xs0 a mid) := by
      rcases (show a = s ∨ s = mid by omega) with h | h
      ·rw [h]; exact Q2
      ·rw [← h]; exact Q1
     refine (IH.out mid e b xs0 _ (by omega) (Lh HG.out.1) (by omega) (by omega) (by omega) (by omega) (Lh (Q4.out.out HRz.out (.inr (Nat.le_refl _)))) (Lh (Q5.out.out HRz.out (.inr (by omega)))) (Lh (HRz.out.ixx Q6.out (.inl (Nat.le_refl _))))).mono ?_
     rintro e1 w4 ⟨rfl, us, ⟨t1, t2⟩, t3, t4⟩
     have HGu := Lh (HG.out.call t3 t4)
     have HRu := Lh t1
     have HSu := Lh t2
     clear t1 t2 t3 t4
     go_wp2_with fail
     go_end0
     exact ⟨rfl, us, ⟨(HR.out.trans (HRz.out.mono (Nat.le_refl _) (by omega))).trans (HRu.out.mono (by omega) (Nat.le_refl _)), halves_join Q7.out HRz.out HRu.out HSz.out HSu.out⟩, HGu.out.1, HGu.out.2⟩
    ·have gi3 : ¬ (a : Int) < s := by omega
     go_wp2_with fail
     have HG := HG0
     have HR : Hid (Rch a b xs0 xs0) := Lh (Rch.refl _ _ _)
     have HY : Hid (∀ p, xs0[p]? = RotT xs0 s m e p) := Lh (rot_same (by omega) (by omega) (by omega))
     obtain ⟨q1, q2, q3, q4, q5, q6, q7⟩ := HH.out xs0 HY.out
     have Q1 := Lh q1; have Q2 := Lh q2; have Q3 := Lh q3; have Q4 := Lh q4; have Q5 := Lh q5; have Q6 := Lh q6; have Q7 := Lh q7
     clear q1 q2 q3 q4 q5 q6 q7
     have HRz : Hid (Rch a mid xs0 xs0) := Lh (Rch.refl _ _ _)
     have HSz : Hid (SrtB xs0 a mid) := by
      rcases (show a = s ∨ s = mid by omega) with h | h
      ·rw [h]; exact Q2
      ·rw [← h]; exact Q1
     refine (IH.out mid e b xs0 _ (by omega) (Lh HG.out.1) (by omega) (by omega) (by omega) (by omega) (Lh (Q4.out.out HRz.out (.inr (Nat.le_refl _)))) (Lh (Q5.out.out HRz.out (.inr (by omega)))) (Lh (HRz.out.ixx Q6.out (.inl (Nat.le_refl _))))).mono ?_
     rintro e1 w4 ⟨rfl, us, ⟨t1, t2⟩, t3, t4⟩
     have HGu := Lh (HG.out.call t3 t4)
     have HRu := Lh t1
     have HSu := Lh t2
     clear t1 t2 t3 t4
     go_wp2_with fail
     go_end0
     exact ⟨rfl, us, ⟨(HR.out.trans (HRz.out.mono (Nat.le_refl _) (by omega))).trans (HRu.out.mono (by omega) (Nat.le_refl _)), halves_join Q7.out HRz.out HRu.out HSz.out HSu.out⟩, HGu.out.1, HGu.out.2⟩
   ·have gi1 : ¬ (s : Int) < m := by omega
    have gi3 : (a : Int) < s := by omega
    have gi5 : ¬ (mid : Int) < e := by omega
    by_cases g3 : s < mid
    ·have gi4 : (s : Int) < mid := by omega
     go_wp2_with fail
     have HG := HG0
     have HR : Hid (Rch a b xs0 xs0) := Lh (Rch.refl _ _ _)
     have HY : Hid (∀ p, xs0[p]? = RotT xs0 s m e p) := Lh (rot_same (by omega) (by omega) (by omega))
     obtain ⟨q1, q2, q3, q4, q5, q6, q7⟩ := HH.out xs0 HY.out
     have Q1 := Lh q1; have Q2 := Lh q2; have Q3 := Lh q3; have Q4 := Lh q4; have Q5 := Lh q5; have Q6 := Lh q6; have Q7 := Lh q7
     clear q1 q2 q3 q4 q5 q6 q7
     refine (IH.out a s mid xs0 _ (by omega) (Lh HG.out.1) (by omega) (by omega) (by omega) (by omega) Q1 Q2 Q3).mono ?_
     rintro e1 w3 ⟨rfl, zs, ⟨t1, t2⟩, t3, t4⟩
     have HGz := Lh (HG.out.call t3 t4)
     have HRz := Lh t1
     have HSz := Lh t2
     have hzl := t1.len
     clear t1 t2 t3 t4
     go_wp2_with fail
     have HSu : Hid (SrtB zs mid b) := by
      rcases (show mid = e ∨ e = b by omega) with h | h
      ·rw [h]; exact Lh (Q5.out.out HRz.out (.inr (by omega)))
      ·rw [← h]; exact Lh (Q4.out.out HRz.out (.inr (Nat.le_refl _)))
     go_end0
     exact ⟨rfl, zs, ⟨HR.out.trans (HRz.out.mono (Nat.le_refl _) (by omega)), halves_join Q7.out HRz.out (Rch.refl _ _ _) HSz.out HSu.out⟩, HGz.out.1, HGz.out.2⟩
    ·have gi4 : ¬ (s : Int) < mid := by omega
     go_wp2_with fail
     have HG := HG0
     have HR : Hid (Rch a b xs0 xs0) := Lh (Rch.refl _ _ _)
     have HY : Hid (∀ p, xs0[p]? = RotT xs0 s m e p) := Lh (rot_same (by omega) (by omega) (by omega))
     obtain ⟨q1, q2, q3, q4, q5, q6, q7⟩ := HH.out xs0 HY.out
     have Q1 := Lh q1; have Q2 := Lh q2; have Q3 := Lh q3; have Q4 := Lh q4; have Q5 := Lh q5; have Q6 := Lh q6; have Q7 := Lh q7
     clear q1 q2 q3 q4 q5 q6 q7
     have HRz : Hid (Rch a mid xs0 xs0) := Lh (Rch.refl _ _ _)
     have HSz : Hid (SrtB xs0 a mid) := by
      rcases (show a = s ∨ s = mid by omega) with h | h
      ·rw [h]; exact Q2
      ·rw [← h]; exact Q1
     have HSu : Hid (SrtB xs0 mid b) := by
      rcases (show mid = e ∨ e = b by omega) with h | h
      ·rw [h]; exact Lh (Q5.out.out HRz.out (.inr (by omega)))
      ·rw [← h]; exact Lh (Q4.out.out HRz.out (.inr (Nat.le_refl _)))
     go_end0
     exact ⟨rfl, xs0, ⟨HR.out.trans (HRz.out.mono (Nat.le_refl _) (by omega)), halves_join Q7.out HRz.out (Rch.refl _ _ _) HSz.out HSu.out⟩, HG.out.1, HG.out.2⟩
 ·have hmm' : (mid : Int) < m := by omega
  obtain ⟨sb, hsb⟩ : ∃ p : Nat, mid + m - b = p := ⟨_, rfl⟩
  have es : (n0 : Int) - (b : Int) = (sb : Int) := by omega
  have HSB := Lh hsb
  clear hsb
  go_enter Tryz.func223, Tryz.ntmps223
  go_wp2_with fail
  go_loopw [20, 21] (fun sv rv wr => ∃ s r : Nat, Hid (KGo W base g cap xs0 wr) ∧ sv = .int .i64 s ∧ rv = .int .i64 r ∧ sb ≤ s ∧ s ≤ r ∧ r ≤ mid ∧ Hid (B3 xs0 p0 (sb) (mid) s r)) (fun sv rv _ => (intOf rv).toNat - (intOf sv).toNat)
  case atStart => exact ⟨sb, mid, Lh (KGo.start hK.out), rfl, rfl, Nat.le_refl _, by omega, Nat.le_refl _, Lh (B3.start _ (by omega))⟩
  case round =>
  obtain ⟨s, r, HG0, rfl, rfl, hs1, hs2, hr2, HB⟩ := hrel
  by_cases hij : s < r
  ·obtain ⟨h, h1, h2, h3, h4⟩ := half_nat s r hij (by omega)
   obtain ⟨x, hx⟩ := get_of_lt (xs := xs0) (i := h) (by omega)
   obtain ⟨ph, hph⟩ : ∃ p : Nat, p0 - h = p := ⟨_, rfl⟩
   obtain ⟨y, hy⟩ := get_of_lt (xs := xs0) (i := ph) (by omega)
   have eh : (p0 : Int) - (h : Int) = (ph : Int) := by omega
   have HPH := Lh hph
   clear hph
   have hc1 := HG0.out.1.at_ hx
   have hc2 := HG0.out.1.at_ hy
   have HL := Lh (HG0.out.1.less hy hx)
   have HX1 := Lh hx
   have HY1 := Lh hy
   have hb1 : h < xs0.length := by omega
   have hb2 : ph < xs0.length := by omega
   clear hy hx
   by_cases hk : y.key < x.key
   ·have hcm := cmpI_lt hk
    have HB2 := Lh (HB.out.down S1.out S2.out (by omega) (by omega) (by omega) (by omega) h1 h2 HX1.out (by rw [HPH.out]; exact HY1.out) hk)
    clear hk
    go_wp2_with (go_quiet ((go_at_call 163; exact HL.out _)))
    exact ⟨⟨s, h, Lh (HG0.out.drewN _), rfl, rfl, by omega, by omega, by omega, HB2⟩, by simp [intOf]; omega⟩
   ·have hcm := cmpI_nlt hk
    have HB2 := Lh (HB.out.up S1.out S2.out (by omega) (by omega) (by omega) (by omega) h1 h2 HX1.out (by rw [HPH.out]; exact HY1.out) hk)
    clear hk
    go_wp2_with (go_quiet ((go_at_call 163; exact HL.out _)))
    exact ⟨⟨h + 1, r, Lh (HG0.out.drewN _), by go_num, rfl, by omega, by omega, hr2, HB2⟩, by simp [intOf]; omega⟩
  ·have hnij : ¬ ((s : Int) < r) := by omega
   obtain rfl : s = r := by omega
   have HC := Lh (B3.cut (s0 := sb) (r0 := mid) S1.out S2.out hb ham hmb HMID.out (.inr ⟨by omega, HSB.out.symm, rfl⟩) (by rw [HP0.out]; exact HB.out))
   obtain ⟨c1, c2, c3, c4, c5, _, _⟩ := HC.out
   have HH := Lh (fun ys hy => HC.out.halves (ys := ys) S1.out S2.out HX.out hy)
   obtain ⟨e, he⟩ : ∃ e, mid + m - s = e := ⟨_, rfl⟩
   have ee : (n0 : Int) - (s : Int) = (e : Int) := by omega
   rw [he] at HH c4 c5
   have HE0 := Lh he
   clear he
   by_cases g1 : s < m ∧ m < e
   ·have gi1 : (s : Int) < m := by omega
    have gi2 : (m : Int) < e := by omega
    have gi4 : (s : Int) < mid := by omega
    have gi5 : (mid : Int) < e := by omega
    by_cases g2 : a < s <;> by_cases g3 : e < b
    ·have gi3 : (a : Int) < s := by omega
     have gi6 : (e : Int) < b := by omega
     go_wp2_with fail
     refine (rot_any base g cap s m e xs0 _ (Lh HG0.out.1) (by omega) (by omega) (by omega) hn _).mono ?_
     rintro e1 w2 ⟨rfl, ys, ⟨r1, r2⟩, r3, r4⟩
     have HG := Lh (HG0.out.call r3 r4)
     have HR := Lh (r1.mono c1 c4)
     have HY := Lh r2
     have hyl := r1.len
     clear r1 r2 r3 r4
     obtain ⟨q1, q2, q3, q4, q5, q6, q7⟩ := HH.out ys HY.out
     have Q1 := Lh q1; have Q2 := Lh q2; have Q3 := Lh q3; have Q4 := Lh q4; have Q5 := Lh q5; have Q6 := Lh q6; have Q7 := Lh q7
     clear q1 q2 q3 q4 q5 q6 q7
     go_wp2_with fail
     rw [← hyl]
     refine (IH.out a s mid ys _ (by omega) (Lh HG.out.1) (by omega) (by omega) (by omega) (by omega) Q1 Q2 Q3).mono ?_
     rintro e1 w3 ⟨rfl, zs, ⟨t1, t2⟩, t3, t4⟩
     have HGz := Lh (HG.out.call t3 t4)
     have HRz := Lh t1
     have HSz := Lh t2
     have hzl := t1.len
     clear t1 t2 t3 t4
     rw [hyl]
     go_wp2_with fail
     rw [show xs0.length = zs.length by omega]
     refine (IH.out mid e b zs _ (by omega) (Lh HGz.out.1) (by omega) (by omega) (by omega) (by omega) (Lh (Q4.out.out HRz.out (.inr (Nat.le_refl _)))) (Lh (Q5.out.out HRz.out (.inr (by omega)))) (Lh (HRz.out.ixx Q6.out (.inl (Nat.le_refl _))))).mono ?_
     rintro e1 w4 ⟨rfl, us, ⟨t1, t2⟩, t3, t4⟩
     have HGu := Lh (HGz.out.call t3 t4)
     have HRu := Lh t1
     have HSu := Lh t2
     clear t1 t2 t3 t4
     go_wp2_with fail
     go_end0
     exact ⟨rfl, us, ⟨(HR.out.trans (HRz.out.mono (Nat.le_refl _) (by omega))).trans (HRu.out.mono (by omega) (Nat.le_refl _)), halves_join Q7.out HRz.out HRu.out HSz.out HSu.out⟩, HGu.out.1, HGu.out.2⟩
    ·have gi3 : (a : Int) < s := by omega
     have gi6 : ¬ (e : Int) < b := by omega
     go_wp2_with fail
     refine (rot_any base g cap s m e xs0 _ (Lh HG0.out.1) (by omega) (by omega) (by omega) hn _).mono ?_
     rintro e1 w2 ⟨rfl, ys, ⟨r1, r2⟩, r3, r4⟩
     have HG := Lh (HG0.out.call r3 r4)
     have HR := Lh (r1.mono c1 c4)
     have HY := Lh r2
     have hyl := r1.len
     clear r1 r2 r3 r4
     obtain ⟨q1, q2, q3, q4, q5, q6, q7⟩ := HH.out ys HY.out
     have Q1 := Lh q1; have Q2 := Lh q2; have Q3 := Lh q3; have Q4 := Lh q4; have Q5 := Lh q5; have Q6 := Lh q6; have Q7 := Lh q7
     clear q1 q2 q3 q4 q5 q6 q7
     go_wp2_with fail
     rw [← hyl]
     refine (IH.out a s mid ys _ (by omega) (Lh HG.out.1) (by omega) (by omega) (by omega) (by omega) Q1 Q2 Q3).mono ?_
     rintro e1 w3 ⟨rfl, zs, ⟨t1, t2⟩, t3, t4⟩
     have HGz := Lh (HG.out.call t3 t4)
     have HRz := Lh t1
     have HSz := Lh t2
     have hzl := t1.len
     clear t1 t2 t3 t4
     rw [hyl]
     go_wp2_with fail
     have HSu : Hid (SrtB zs mid b) := by
      rcases (show mid = e ∨ e = b by omega) with h | h
      ·rw [h]; exact Lh (Q5.out.out HRz.out (.inr (by omega)))
      ·rw [← h]; exact Lh (Q4.out.out HRz.out (.inr (Nat.le_refl _)))
     go_end0
     exact ⟨rfl, zs, ⟨HR.out.trans (HRz.out.mono (Nat.le_refl _) (by omega)), halves_join Q7.out HRz.out (Rch.refl _ _ _) HSz.out HSu.out⟩, HGz.out.1, HGz.out.2⟩
    ·have gi3 : ¬ (a : Int) < s := by omega
     have gi6 : (e : Int) < b := by omega
     go_wp2_with fail
     refine (rot_any base g cap s m e xs0 _ (Lh HG0.out.1) (by omega) (by omega) (by omega) hn _).mono ?_
     rintro e1 w2 ⟨rfl, ys, ⟨r1, r2⟩, r3, r4⟩
     have HG := Lh (HG0.out.call r3 r4)
     have HR := Lh (r1.mono c1 c4)
     have HY := Lh r2
     have hyl := r1.len
     clear r1 r2 r3 r4
     obtain ⟨q1, q2, q3, q4, q5, q6, q7⟩ := HH.out ys HY.out
     have Q1 := Lh q1; have Q2 := Lh q2; have Q3 := Lh q3; have Q4 := Lh q4; have Q5 := Lh q5; have Q6 := Lh q6; have Q7 := Lh q7
     clear q1 q2 q3 q4 q5 q6 q7
     go_wp2_with fail
     have HRz : Hid (Rch a mid ys ys) := Lh (Rch.refl _ _ _)
     have HSz : Hid (SrtB ys a mid) := by
      rcases (show a = s ∨ s = mid by omega) with h | h
      ·rw [h]; exact Q2
      ·rw [← h]; exact Q1
     rw [show xs0.length = ys.length by omega]
     refine (IH.out mid e b ys _ (by omega) (Lh HG.out.1) (by omega) (by omega) (by omega) (by omega) (Lh (Q4.out.out HRz.out (.inr (Nat.le_refl _)))) (Lh (Q5.out.out HRz.out (.inr (by omega)))) (Lh (HRz.out.ixx Q6.out (.inl (Nat.le_refl _))))).mono ?_
     rintro e1 w4 ⟨rfl, us, ⟨t1, t2⟩, t3, t4⟩
     have HGu := Lh (HG.out.call t3 t4)
     have HRu := Lh t1
     have HSu := Lh t2
     clear t1 t2 t3 t4
     go_wp2_with fail
     go_end0
     exact ⟨rfl, us, ⟨(HR.out.trans (HRz.out.mono (Nat.le_refl _) (by omega))).trans (HRu.out.mono (by omega) (Nat.le_refl _)), halves_join Q7.out HRz.out HRu.out HSz.out HSu.out⟩, HGu.out.1, HGu.out.2⟩
    ·have gi3 : ¬ (a : Int) < s := by omega
     have gi6 : ¬ (e : Int) < b := by omega
     go_wp2_with fail
     refine (rot_any base g cap s m e xs0 _ (Lh HG0.out.1) (by omega) (by omega) (by omega) hn _).mono ?_
     rintro e1 w2 ⟨rfl, ys, ⟨r1, r2⟩, r3, r4⟩
     have HG := Lh (HG0.out.call r3 r4)
     have HR := Lh (r1.mono c1 c4)
     have HY := Lh r2
     have hyl := r1.len
     clear r1 r2 r3 r4
     obtain ⟨q1, q2, q3, q4, q5, q6, q7⟩ := HH.out ys HY.out
     have Q1 := Lh q1; have Q2 := Lh q2; have Q3 := Lh q3; have Q4 := Lh q4; have Q5 := Lh q5; have Q6 := Lh q6; have Q7 := Lh q7
     clear q1 q2 q3 q4 q5 q6 q7
     go_wp2_with fail
     have HRz : Hid (Rch a mid ys ys) := Lh (Rch.refl _ _ _)
     have HSz : Hid (SrtB ys a mid) := by
      rcases (show a = s ∨ s = mid by omega) with h | h
      ·rw [h]; exact Q2
      ·rw [← h]; exact Q1
     have HSu : Hid (SrtB ys mid b) := by
      rcases (show mid = e ∨ e = b by omega) with h | h
      ·rw [h]; exact Lh (Q5.out.out HRz.out (.inr (by omega)))
      ·rw [← h]; exact Lh (Q4.out.out HRz.out (.inr (Nat.le_refl _)))
     go_end0
     exact ⟨rfl, ys, ⟨HR.out.trans (HRz.out.mono (Nat.le_refl _) (by omega)), halves_join Q7.out HRz.out (Rch.refl _ _ _) HSz.out HSu.out⟩, HG.out.1, HG.out.2⟩
   by_cases g2 : s < m
   ·have gi1 : (s : Int) < m := by omega
    have gi2 : ¬ (m : Int) < e := by omega
    have gi4 : ¬ (s : Int) < mid := by omega
    have gi5 : (mid : Int) < e := by omega
    have gi6 : (e : Int) < b := by omega
    by_cases g3 : a < s
    ·have gi3 : (a : Int) < s := by omega
     go_wp2_with fail
     have HG := HG0
     have HR : Hid (Rch a b xs0 xs0) := Lh (Rch.refl _ _ _)
     have HY : Hid (∀ p, xs0[p]? = RotT xs0 s m e p) := Lh (rot_same (by omega) (by omega) (by omega))
     obtain ⟨q1, q2, q3, q4, q5, q6, q7⟩ := HH.out xs0 HY.out
     have Q1 := Lh q1; have Q2 := Lh q2; have Q3 := Lh q3; have Q4 := Lh q4; have Q5 := Lh q5; have Q6 := Lh q6; have Q7 := Lh q7
     clear q1 q2 q3 q4 q5 q6 q7
     have HRz : Hid (Rch a mid xs0 xs0) := Lh (Rch.refl _ _ _)
     have HSz : Hid (SrtB xs0 a mid) := by
      rcases (show a = s ∨ s = mid by omega) with h | h
      ·rw [h]; exact Q2
      ·rw [← h]; exact Q1
     refine (IH.out mid e b xs0 _ (by omega) (Lh HG.out.1) (by omega) (by omega) (by omega) (by omega) (Lh (Q4.out.out HRz.out (.inr (Nat.le_refl _)))) (Lh (Q5.out.out HRz.out (.inr (by omega)))) (Lh (HRz.out.ixx Q6.out (.inl (Nat.le_refl _))))).mono ?_
     rintro e1 w4 ⟨rfl, us, ⟨t1, t2⟩, t3, t4⟩
     have HGu := Lh (HG.out.call t3 t4)
     have HRu := Lh t1
     have HSu := Lh t2
     clear t1 t2 t3 t4
     go_wp2_with fail
     go_end0
     exact ⟨rfl, us, ⟨(HR.out.trans (HRz.out.mono (Nat.le_refl _) (by omega))).trans (HRu.out.mono (by omega) (Nat.le_refl _)), halves_join Q7.out HRz.out HRu.out HSz.out HSu.out⟩, HGu.out.1, HGu.out.2⟩
    ·have gi3 : ¬ (a : Int) < s := by omega
     go_wp2_with fail
     have HG := HG0
     have HR : Hid (Rch a b xs0 xs0) := Lh (Rch.refl _ _ _)
     have HY : Hid (∀ p, xs0[p]? = RotT xs0 s m e p) := Lh (rot_same (by omega) (by omega) (by omega))
     obtain ⟨q1, q2, q3, q4, q5, q6, q7⟩ := HH.out xs0 HY.out
     have Q1 := Lh q1; have Q2 := Lh q2; have Q3 := Lh q3; have Q4 := Lh q4; have Q5 := Lh q5; have Q6 := Lh q6; have Q7 := Lh q7
     clear q1 q2 q3 q4 q5 q6 q7
     have HRz : Hid (Rch a mid xs0 xs0) := Lh (Rch.refl _ _ _)
     have HSz : Hid (SrtB xs0 a mid) := by
      rcases (show a = s ∨ s = mid by omega) with h | h
      ·rw [h]; exact Q2
      ·rw [← h]; exact Q1
     refine (IH.out mid e b xs0 _ (by omega) (Lh HG.out.1) (by omega) (by omega) (by omega) (by omega) (Lh (Q4.out.out HRz.out (.inr (Nat.le_refl _)))) (Lh (Q5.out.out HRz.out (.inr (by omega)))) (Lh (HRz.out.ixx Q6.out (.inl (Nat.le_refl _))))).mono ?_
     rintro e1 w4 ⟨rfl, us, ⟨t1, t2⟩, t3, t4⟩
     have HGu := Lh (HG.out.call t3 t4)
     have HRu := Lh t1
     have HSu := Lh t2
     clear t1 t2 t3 t4
     go_wp2_with fail
     go_end0
     exact ⟨rfl, us, ⟨(HR.out.trans (HRz.out.mono (Nat.le_refl _) (by omega))).trans (HRu.out.mono (by omega) (Nat.le_refl _)), halves_join Q7.out HRz.out HRu.out HSz.out HSu.out⟩, HGu.out.1, HGu.out.2⟩
   ·exfalso; omega
theorem IxB.cross {xs : List KV} {n p : Nat} (h : IxB xs 0 n) : IxX xs 0 p n := fun i j x y h1 h2 h3 h4 e1 e2 => h i j x y h1 (by omega) h4 e1 e2
theorem IxX.moved {xs ys : List KV} {a b p n : Nat} (h : IxX xs 0 p n) (hr : Rch a b xs ys) (hp : p ≤ a ∨ b ≤ p) (hb : b ≤ n) (hn : n ≤ xs.length) : IxX ys 0 p n := by
 intro i j x y h1 h2 h3 h4 e1 e2
 have fr : ∀ q z, ys[q]? = some z → q < n → ∃ q', (q < p ↔ q' < p) ∧ q' < n ∧ xs[q']? = some z := by
  intro q z hz hq
  by_cases hab : a ≤ q ∧ q < b
  ·obtain ⟨q', g1, g2, g3, g4⟩ := hr.from_ q hab.1 hab.2 (by omega)
   exact ⟨q', by omega, by omega, by rw [← g4]; exact hz⟩
  ·exact ⟨q, Iff.rfl, hq, by rw [← hr.out q (by omega)]; exact hz⟩
 obtain ⟨i', a1, a2, a3⟩ := fr i x e1 (by omega)
 obtain ⟨j', b1, b2, b3⟩ := fr j y e2 h4
 exact h i' j' x y (Nat.zero_le _) (by omega) (by omega) b2 a3 b3
def J1 (xs0 xs : List KV) (n a : Nat) : Prop := Rch 0 n xs0 xs ∧ 20 ∣ a ∧ a ≤ n ∧ (∀ p, 20 ∣ p → p < a → SrtB xs p (p + 20)) ∧ (∀ j, a ≤ j → xs[j]? = xs0[j]?) ∧ (∀ p, 20 ∣ p → IxX xs 0 p n)
def J2 (xs0 xs : List KV) (n k : Nat) : Prop := Rch 0 n xs0 xs ∧ (∀ p, k ∣ p → p < n → SrtB xs p (min (p + k) n)) ∧ (∀ p, k ∣ p → IxX xs 0 p n)
def J3 (xs0 xs : List KV) (n k a : Nat) : Prop := Rch 0 n xs0 xs ∧ 2 * k ∣ a ∧ a ≤ n ∧ (∀ p, 2 * k ∣ p → p < a → SrtB xs p (p + 2 * k)) ∧ (∀ p, k ∣ p → a ≤ p → p < n → SrtB xs p (min (p + k) n)) ∧ (∀ p, 2 * k ∣ p → IxX xs 0 p n) ∧ (∀ p, k ∣ p → a ≤ p → IxX xs 0 p n)
theorem J1.start {xs0 : List KV} {n : Nat} (h : IxB xs0 0 n) : J1 xs0 xs0 n 0 := ⟨Rch.refl _ _ _, ⟨0, rfl⟩, Nat.zero_le _, fun p _ hp => by omega, fun _ _ => rfl, fun p _ => h.cross⟩
theorem J1.ix {xs0 xs : List KV} {n a b : Nat} (h0 : IxB xs0 0 n) (h : J1 xs0 xs n a) (hb : b ≤ n) : IxB xs a b := by
 obtain ⟨_, _, _, _, h4, _⟩ := h
 intro i j x y h1 h2 h3 e1 e2
 rw [h4 i h1] at e1
 rw [h4 j (by omega)] at e2
 exact h0 i j x y (Nat.zero_le _) h2 (by omega) e1 e2
theorem dvd_next {k p a : Nat} (h : k ∣ p) (h' : k ∣ a) (hp : a < p) : a + k ≤ p := by
 obtain ⟨c, rfl⟩ := h
 obtain ⟨d, rfl⟩ := h'
 have h1 : d < c := Nat.lt_of_mul_lt_mul_left hp
 have := Nat.mul_le_mul_left k (show d + 1 ≤ c from h1)
 rw [Nat.mul_add, Nat.mul_one] at this
 exact this
theorem J1.next {xs0 xs ys : List KV} {n a : Nat} (h : J1 xs0 xs n a) (hb : a + 20 ≤ n) (hn : n ≤ xs.length) (hr : Rch a (a + 20) xs ys) (hs : SrtB ys a (a + 20)) : J1 xs0 ys n (a + 20) := by
 obtain ⟨h0, h1, h2, h3, h4, h5⟩ := h
 refine ⟨h0.trans (hr.mono (Nat.zero_le _) hb), by omega, hb, fun p hp hlt => ?_, fun j hj => (hr.out j (.inr hj)).trans (h4 j (by omega)), fun p hp => (h5 p hp).moved hr ?_ hb hn⟩
 ·by_cases e : p = a
  ·subst e; exact hs
  ·exact (h3 p hp (by omega)).out hr (.inl (by omega))
 ·by_cases e : p ≤ a
  ·exact .inl e
  ·exact .inr (dvd_next hp h1 (by omega))
theorem J1.done {xs0 xs ys : List KV} {n a : Nat} (h : J1 xs0 xs n a) (hb : n < a + 20) (hn : n ≤ xs.length) (hr : Rch a n xs ys) (hs : SrtB ys a n) : J2 xs0 ys n 20 := by
 obtain ⟨h0, h1, h2, h3, h4, h5⟩ := h
 refine ⟨h0.trans (hr.mono (Nat.zero_le _) (Nat.le_refl _)), fun p hp hlt => ?_, fun p hp => ?_⟩
 ·by_cases e : p = a
  ·subst e; rw [Nat.min_eq_right (by omega)]; exact hs
  ·have : p < a := by omega
   rw [Nat.min_eq_left (by omega)]
   exact (h3 p hp this).out hr (.inl (by omega))
 ·by_cases e : p ≤ a
  ·exact (h5 p hp).moved hr (.inl e) (Nat.le_refl _) hn
  ·have := dvd_next hp h1 (by omega)
   exact (h5 p hp).moved hr (.inr (by omega)) (Nat.le_refl _) hn
theorem J2.go {xs0 xs : List KV} {n k : Nat} (h : J2 xs0 xs n k) : J3 xs0 xs n k 0 := by
 obtain ⟨h0, h1, h2⟩ := h
 exact ⟨h0, ⟨0, rfl⟩, Nat.zero_le _, fun p _ hp => by omega, fun p hp _ hlt => h1 p hp hlt, fun p hp => h2 p (Nat.dvd_trans ⟨2, by omega⟩ hp), fun p hp _ => h2 p hp⟩
theorem J3.two {xs0 xs : List KV} {n k a b : Nat} (hk : 1 ≤ k) (h : J3 xs0 xs n k a) (hm : a + k < b) (hb : b ≤ n) (hb2 : b ≤ a + 2 * k) : SrtB xs a (a + k) ∧ SrtB xs (a + k) b ∧ IxX xs a (a + k) b := by
 obtain ⟨h0, h1, h2, h3, h4, h5, h6⟩ := h
 have d1 : k ∣ a := Nat.dvd_trans ⟨2, by omega⟩ h1
 have d2 : k ∣ a + k := (Nat.dvd_add_right d1).2 (Nat.dvd_refl k)
 have s1 := h4 a d1 (Nat.le_refl _) (by omega)
 have s2 := h4 (a + k) d2 (by omega) (by omega)
 have x1 := h6 (a + k) d2 (by omega)
 rw [Nat.min_eq_left (by omega)] at s1
 refine ⟨s1, fun i j x y g1 g2 g3 => s2 i j x y g1 g2 (by omega), fun i j x y g1 g2 g3 g4 => x1 i j x y (Nat.zero_le _) g2 g3 (by omega)⟩
theorem J3.next {xs0 xs ys : List KV} {n k a : Nat} (hk : 1 ≤ k) (h : J3 xs0 xs n k a) (hb : a + 2 * k ≤ n) (hn : n ≤ xs.length) (hr : Rch a (a + 2 * k) xs ys) (hs : SrtB ys a (a + 2 * k)) : J3 xs0 ys n k (a + 2 * k) := by
 obtain ⟨h0, h1, h2, h3, h4, h5, h6⟩ := h
 refine ⟨h0.trans (hr.mono (Nat.zero_le _) hb), (Nat.dvd_add_right h1).2 (Nat.dvd_refl _), hb, fun p hp hlt => ?_, fun p hp hge hlt => (h4 p hp (by omega) hlt).out hr (.inr hge), fun p hp => (h5 p hp).moved hr ?_ hb hn, fun p hp hge => (h6 p hp (by omega)).moved hr (.inr hge) hb hn⟩
 ·by_cases e : p = a
  ·subst e; exact hs
  ·by_cases e2 : p < a
   ·exact (h3 p hp e2).out hr (.inl (dvd_next h1 hp e2))
   ·have := dvd_next hp h1 (by omega)
    omega
 ·by_cases e : p ≤ a
  ·exact .inl e
  ·exact .inr (dvd_next hp h1 (by omega))
theorem J3.done {xs0 xs ys : List KV} {n k a : Nat} (hk : 1 ≤ k) (h : J3 xs0 xs n k a) (hb : n < a + 2 * k) (hn : n ≤ xs.length) (hr : Rch a n xs ys) (hs : SrtB ys a n) : J2 xs0 ys n (2 * k) := by
 obtain ⟨h0, h1, h2, h3, h4, h5, h6⟩ := h
 refine ⟨h0.trans (hr.mono (Nat.zero_le _) (Nat.le_refl _)), fun p hp hlt => ?_, fun p hp => ?_⟩
 ·by_cases e : p = a
  ·subst e; rw [Nat.min_eq_right (by omega)]; exact hs
  ·by_cases e2 : p < a
   ·have := dvd_next h1 hp e2
    rw [Nat.min_eq_left (by omega)]
    exact (h3 p hp e2).out hr (.inl this)
   ·have := dvd_next hp h1 (by omega)
    omega
 ·by_cases e : p ≤ a
  ·exact (h5 p hp).moved hr (.inl e) (Nat.le_refl _) hn
  ·have := dvd_next hp h1 (by omega)
   exact (h5 p hp).moved hr (.inr (by omega)) (Nat.le_refl _) hn
theorem J3.short {xs0 xs : List KV} {n k a : Nat} (hk : 1 ≤ k) (h : J3 xs0 xs n k a) (hb : n ≤ a + k) : SrtB xs a n := by
 obtain ⟨h0, h1, h2, h3, h4, h5, h6⟩ := h
 by_cases e : a < n
 ·have := h4 a (Nat.dvd_trans ⟨2, by omega⟩ h1) (Nat.le_refl _) e
  rwa [Nat.min_eq_right hb] at this
 ·intro i j x y g1 g2 g3; omega
theorem J2.end_ {xs0 xs : List KV} {n k : Nat} (h : J2 xs0 xs n k) (hk : n ≤ k) : SrtB xs 0 n := by
 obtain ⟨h0, h1, h2⟩ := h
 by_cases e : 0 < n
 ·have := h1 0 ⟨0, rfl⟩ e
  rwa [Nat.min_eq_right (by omega)] at this
 ·intro i j x y g1 g2 g3; omega
theorem stable_any (base g cap : Nat) (xs0 : List KV) (W : World) (hK : Hid (KSt W base g cap xs0)) (hix : Hid (IxB xs0 0 xs0.length)) (hn : xs0.length < 1099511627776) :
  Calls Tryz.prog 194 #[.slice (some ⟨g, 0, none⟩) xs0.length cap, .int .i64 xs0.length, .func (.func 163) #[] #[]] W (KEnd W base g cap fun ys => ys.Perm xs0 ∧ SrtB ys 0 ys.length) := by
 obtain ⟨n, hnn⟩ : ∃ n, xs0.length = n := ⟨_, rfl⟩
 have HN := Lh hnn
 rw [hnn] at hix hn ⊢
 clear hnn
 go_enter Tryz.func194, Tryz.ntmps194
 go_wp2_with fail
 go_loopw [7, 8] (fun av bv wr => ∃ (a : Nat) (xs : List KV), av = .int .i64 a ∧ bv = .int .i64 ((a : Int) + 20) ∧ a ≤ n ∧ Hid (J1 xs0 xs n a) ∧ Hid (KGo W base g cap xs wr)) (fun av _ _ => n - (intOf av).toNat)
 case atStart => exact ⟨0, xs0, rfl, rfl, Nat.zero_le _, Lh (J1.start hix.out), Lh (KGo.start hK.out)⟩
 case round =>
 obtain ⟨a, xs, rfl, rfl, han, HJ, HG⟩ := hrel
 have HL : Hid (xs.length = n) := Lh (HJ.out.1.len.trans HN.out)
 by_cases hb : a + 20 ≤ n
 ·have hb' : (a : Int) + 20 ≤ n := by omega
  obtain ⟨b, hbe⟩ : ∃ b : Nat, a + 20 = b := ⟨_, rfl⟩
  have hbi : (a : Int) + 20 = (b : Int) := by omega
  have HBE := Lh hbe
  have hbn : b ≤ n := by omega
  clear hbe
  go_wp2_with fail
  rw [← HL.out]
  refine (ins_any base g cap a b xs _ (Lh HG.out.1) (Lh (HJ.out.ix hix.out hbn)) (by rw [HL.out]; exact hbn) (by omega) (by rw [HL.out]; exact hn)).mono ?_
  rintro e w1 ⟨rfl, ys, ⟨r1, r2⟩, r3, r4⟩
  have HG2 := Lh (HG.out.call r3 r4)
  have HJ2 : Hid (J1 xs0 ys n b) := by
   unfold Hid
   rw [← HBE.out] at r1 r2 hbn ⊢
   exact HJ.out.next hbn (by rw [HL.out]; exact Nat.le_refl _) r1 r2
  clear r1 r2 r3 r4
  rw [HL.out]
  go_wp2_with fail
  exact ⟨⟨b, ys, rfl, rfl, hbn, HJ2, HG2⟩, by simp [intOf]; omega⟩
 ·have hb' : ¬ (a : Int) + 20 ≤ n := by omega
  go_wp2_with fail
  rw [← HL.out]
  refine (ins_any base g cap a xs.length xs _ (Lh HG.out.1) (Lh (HJ.out.ix hix.out (by rw [HL.out]; exact Nat.le_refl _))) (Nat.le_refl _) (by rw [HL.out]; exact han) (by rw [HL.out]; exact hn)).mono ?_
  rintro e w1 ⟨rfl, ys, ⟨r1, r2⟩, r3, r4⟩
  have HG2 := Lh (HG.out.call r3 r4)
  have HJ2 : Hid (J2 xs0 ys n 20) := by
   rw [HL.out] at r1 r2
   exact Lh (HJ.out.done (by omega) (by rw [HL.out]; exact Nat.le_refl _) r1 r2)
  clear r1 r2 r3 r4
  rw [HL.out]
  go_wp2_with fail
  go_loopw [6] (fun kv wr => ∃ (k : Nat) (xs : List KV), kv = .int .i64 k ∧ 1 ≤ k ∧ k < 2199023255552 ∧ Hid (J2 xs0 xs n k) ∧ Hid (KGo W base g cap xs wr)) (fun kv _ => 2 * n + 20 - (intOf kv).toNat)
  case atStart => exact ⟨20, ys, rfl, by omega, by omega, HJ2, HG2⟩
  case round =>
  obtain ⟨k, xs, rfl, hk1, hk2, HJ, HG⟩ := hrel
  by_cases hkn : k < n
  ·obtain ⟨kk, hkk⟩ : ∃ kk : Nat, 2 * k = kk := ⟨_, rfl⟩
   have hkki : 2 * (k : Int) = (kk : Int) := by omega
   have hkki2 : (k : Int) * 2 = (kk : Int) := by omega
   have HKK := Lh hkk
   clear hkk
   go_wp2_with fail
   go_loopw [7, 8] (fun av bv wr => ∃ (a : Nat) (xs : List KV), av = .int .i64 a ∧ bv = .int .i64 ((a : Int) + (kk : Int)) ∧ a ≤ n ∧ Hid (J3 xs0 xs n k a) ∧ Hid (KGo W base g cap xs wr)) (fun av _ _ => n - (intOf av).toNat)
   case atStart => exact ⟨0, xs, rfl, by go_num, Nat.zero_le _, Lh HJ.out.go, HG⟩
   case round =>
   obtain ⟨a, ys, rfl, rfl, han, HA, HG⟩ := hrel
   have HL : Hid (ys.length = n) := Lh (HA.out.1.len.trans HN.out)
   obtain ⟨m, hm⟩ : ∃ m : Nat, a + k = m := ⟨_, rfl⟩
   have hmi : (a : Int) + (k : Int) = (m : Int) := by omega
   have HM := Lh hm
   obtain ⟨b, hbe⟩ : ∃ b : Nat, a + kk = b := ⟨_, rfl⟩
   have hbi : (a : Int) + (kk : Int) = (b : Int) := by omega
   have HBE : Hid (a + 2 * k = b) := by unfold Hid; rw [HKK.out]; exact hbe
   clear hm hbe
   by_cases hb : b ≤ n
   ·have hb' : (b : Int) ≤ n := by omega
    obtain ⟨t1, t2, t3⟩ := HA.out.two hk1 (b := b) (by omega) hb (by omega)
    rw [HM.out] at t1 t2 t3
    have T1 := Lh t1
    have T2 := Lh t2
    have T3 := Lh t3
    clear t1 t2 t3
    go_wp2_with fail
    rw [← HL.out]
    refine (sym_any base g cap (b - a) a m b ys _ (Nat.le_refl _) (Lh HG.out.1) (by omega) (by omega) (by rw [HL.out]; exact hb) (by rw [HL.out]; exact hn) T1 T2 T3).mono ?_
    rintro e w1 ⟨rfl, zs, ⟨r1, r2⟩, r3, r4⟩
    have HG2 := Lh (HG.out.call r3 r4)
    have HJ2 : Hid (J3 xs0 zs n k b) := by
     unfold Hid
     rw [← HBE.out] at r1 r2 hb ⊢
     exact HA.out.next hk1 hb (by rw [HL.out]; exact Nat.le_refl _) r1 r2
    clear r1 r2 r3 r4
    rw [HL.out]
    go_wp2_with fail
    exact ⟨⟨b, zs, rfl, by go_num, hb, HJ2, HG2⟩, by simp [intOf]; omega⟩
   ·have hb' : ¬ (b : Int) ≤ n := by omega
    by_cases hmn : m < n
    ·have hmn' : (m : Int) < n := by omega
     obtain ⟨t1, t2, t3⟩ := HA.out.two hk1 (b := n) (by omega) (Nat.le_refl _) (by omega)
     rw [HM.out] at t1 t2 t3
     have T1 := Lh t1
     have T2 := Lh t2
     have T3 := Lh t3
     clear t1 t2 t3
     go_wp2_with fail
     have HLI : Hid ((n : Int) = (ys.length : Int)) := by unfold Hid; rw [HL.out]
     rw [← HL.out]
     refine (sym_any base g cap (ys.length - a) a m ys.length ys _ (Nat.le_refl _) (Lh HG.out.1) (by omega) (by rw [HL.out]; exact hmn) (Nat.le_refl _) (by rw [HL.out]; exact hn) T1 (by rw [HL.out]; exact T2) (by rw [HL.out]; exact T3)).mono ?_
     rintro e w1 ⟨rfl, zs, ⟨r1, r2⟩, r3, r4⟩
     have HG2 := Lh (HG.out.call r3 r4)
     rw [HL.out] at r1 r2
     have HJ2 := Lh (HA.out.done hk1 (by omega) (by rw [HL.out]; exact Nat.le_refl _) r1 r2)
     rw [HKK.out] at HJ2
     clear r1 r2 r3 r4
     rw [HL.out]
     go_wp2_with fail
     exact ⟨⟨kk, zs, rfl, by omega, by omega, HJ2, HG2⟩, by simp [intOf]; omega⟩
    ·have hmn' : ¬ (m : Int) < n := by omega
     have HJ2 := Lh (HA.out.done hk1 (by omega) (by rw [HL.out]; exact Nat.le_refl _) (Rch.refl _ _ _) (HA.out.short hk1 (by omega)))
     rw [HKK.out] at HJ2
     go_wp2_with fail
     exact ⟨⟨kk, ys, rfl, by omega, by omega, HJ2, HG⟩, by simp [intOf]; omega⟩
  ·have hkn' : ¬ (k : Int) < n := by omega
   go_wp2_with fail
   go_end0
   refine ⟨rfl, xs, ⟨HJ.out.1.perm, ?_⟩, HG.out.1, HG.out.2⟩
   have e : xs.length = n := HJ.out.1.len.trans HN.out
   rw [e]; exact HJ.out.end_ (by omega)
theorem sortStable_any (base g cap : Nat) (xs0 : List KV) (W : World) (hK : Hid (KSt W base g cap xs0)) (hix : Hid (IxB xs0 0 xs0.length)) (hn : xs0.length < 1099511627776) :
  Calls Tryz.prog 162 #[.slice (some ⟨g, 0, none⟩) xs0.length cap, .func (.func 163) #[] #[]] W (KEnd W base g cap fun ys => ys.Perm xs0 ∧ SrtB ys 0 ys.length) := by
 go_enter Tryz.func162, Tryz.ntmps162
 go_wp2_with fail
 refine (stable_any base g cap xs0 W hK hix hn).mono ?_
 rintro e w1 ⟨rfl, ys, r1, r2, r3⟩
 go_wp2_with fail
 go_end0
 exact ⟨rfl, ys, r1, r2, r3⟩
noncomputable def meetM (a b : List Sp) : List Sp := Classical.choose (rep_meet a b)
noncomputable def minusL (a b : List Sp) : List Sp := Classical.choose (rep_minus a b)
theorem meetL_rep (a b : List Sp) : Hid (Rep (meetM a b) (fun x => Mem a x ∧ Mem b x)) := Classical.choose_spec (rep_meet a b)
theorem minusL_rep (a b : List Sp) : Hid (Rep (minusL a b) (fun x => Mem a x ∧ ¬ Mem b x)) := Classical.choose_spec (rep_minus a b)
def addL (P : List (List Sp)) (x : List Sp) : List (List Sp) := if x = [] then P else P ++ [x]
noncomputable def parts (s : List Sp) : List (List Sp) → List (List Sp) → List (List Sp)
 | P, [] => P
 | P, b :: L => parts s (addL (addL P (meetM b s)) (minusL b s)) L
theorem addL_len (P : List (List Sp)) (x : List Sp) : P.length ≤ (addL P x).length := by unfold addL; split <;> simp
theorem parts_len (s : List Sp) (L P : List (List Sp)) : P.length ≤ (parts s P L).length := by
 induction L generalizing P with
 | nil => exact Nat.le_refl _
 | cons b L ih => exact Nat.le_trans (Nat.le_trans (addL_len _ _) (addL_len _ _)) (ih _)
theorem parts_append (s : List Sp) (L M P : List (List Sp)) : parts s P (L ++ M) = parts s (parts s P L) M := by
 induction L generalizing P with
 | nil => rfl
 | cons b L ih => exact ih _
theorem parts_next {s : List Sp} {L : List (List Sp)} {k : Nat} {b : List Sp} (h : L[k]? = some b) : parts s [] (L.take (k + 1)) = addL (addL (parts s [] (L.take k)) (meetM b s)) (minusL b s) := by
 rw [take_snoc? h, parts_append]; rfl
def keyS (l : List Sp) : Int := (l.headD (0, 0)).1
def StabRel (P Q : List (List Sp)) : Prop := ∃ ix : List Nat, ix.Perm (List.range P.length) ∧ Q = ix.map (fun i => P[i]!) ∧ ix.Pairwise (fun i j => keyS P[i]! < keyS P[j]! ∨ (keyS P[i]! = keyS P[j]! ∧ i < j))
theorem perm_sorted_unique {r : Nat → Nat → Prop} (ht : ∀ i j, r i j → ¬ r j i) {a b : List Nat} (hp : a.Perm b) (h1 : a.Pairwise r) (h2 : b.Pairwise r) : a = b := by
 induction a generalizing b with
 | nil => exact (List.perm_nil.1 hp.symm).symm
 | cons x a ih =>
  cases b with
  | nil => exact absurd hp.length_eq (by simp)
  | cons y b =>
   have e : x = y := by
    have m1 : x ∈ y :: b := hp.mem_iff.1 (by simp)
    have m2 : y ∈ x :: a := hp.mem_iff.2 (by simp)
    rcases List.mem_cons.1 m1 with e | m1
    ·exact e
    ·rcases List.mem_cons.1 m2 with e | m2
     ·exact e.symm
     ·exact absurd ((List.pairwise_cons.1 h1).1 y m2) (ht _ _ ((List.pairwise_cons.1 h2).1 x m1))
   subst e
   rw [ih (List.perm_cons x |>.1 hp) (List.pairwise_cons.1 h1).2 (List.pairwise_cons.1 h2).2]
theorem StabRel.unique {P Q R : List (List Sp)} (h : StabRel P Q) (k : StabRel P R) : Q = R := by
 obtain ⟨a, a1, rfl, a3⟩ := h
 obtain ⟨b, b1, rfl, b3⟩ := k
 rw [perm_sorted_unique (fun i j h1 h2 => by omega) (a1.trans b1.symm) a3 b3]
theorem StabRel.mem {P Q : List (List Sp)} (h : StabRel P Q) (x : List Sp) : x ∈ Q ↔ x ∈ P := by
 obtain ⟨a, a1, rfl, a3⟩ := h
 rw [List.mem_map]
 constructor
 ·rintro ⟨i, hi, rfl⟩
  have hi' := List.mem_range.1 (a1.mem_iff.1 hi)
  rw [getElem!_pos P i hi']; exact List.getElem_mem _
 ·intro hx
  obtain ⟨i, hi, rfl⟩ := List.getElem_of_mem hx
  exact ⟨i, a1.mem_iff.2 (List.mem_range.2 hi), getElem!_pos P i hi⟩
theorem StabRel.len {P Q : List (List Sp)} (h : StabRel P Q) : Q.length = P.length := by
 obtain ⟨a, a1, rfl, a3⟩ := h
 rw [List.length_map, a1.length_eq, List.length_range]
theorem StabRel.nil_ : StabRel [] [] := ⟨[], List.Perm.refl _, rfl, List.Pairwise.nil⟩
structure LRow (W : World) (base : Nat) (A : Option Addr) (c : Nat) (O : List (Item Sp)) : Prop where
 row : W.ownsRow base 103 1 (.slice A O.length c) O.length (icells O)
 it : ∀ i ∈ O, Lst i.1 i.2.2 W ∧ i.2.2 ≠ [] ∧ ∃ b off, i.1 = some ⟨b, off, none⟩ ∧ some b ≠ Value.ownBlock (.slice A O.length c)
 nil : O = [] → A = none ∧ c = 0
theorem LRow.start (W : World) (base : Nat) : LRow W base none 0 [] := ⟨World.ownsRow_nil _ _ _ _, fun i hi => (by cases hi), fun _ => ⟨rfl, rfl⟩⟩
theorem own_below {W w : World} {base : Nat} {e : TypeId} {size : Nat} {v : Value} {n : Nat} {xs : List Value} (h : W.ownsRow base e size v n xs) (hb : Below W.heap.size W w) : w.ownsRow base e size v n xs := by
 refine ⟨h.1, ?_⟩
 rcases h.2 with h | ⟨g, cap, cur, e, hg1, hg2, hg3⟩
 ·exact .inl h
 ·exact .inr ⟨g, cap, cur, e, hg1, (hb.block g (Array.getElem?_eq_some_iff.1 hg2).1).trans hg2, hg3⟩
theorem LRow.below {W w : World} {base : Nat} {A : Option Addr} {c : Nat} {O : List (Item Sp)} (h : LRow W base A c O) (hb : Below W.heap.size W w) : LRow w base A c O :=
 ⟨own_below h.row hb, fun i hi => ⟨(h.it i hi).1.below hb, (h.it i hi).2⟩, h.nil⟩
theorem Lst.grown {A : Option Addr} {l : List Sp} {w w' : World} {r : Option Nat} (h : Lst A l w) (hg : w.grownBy w' r) {b off : Nat} (hA : A = some ⟨b, off, none⟩) (hb : some b ≠ r) : Lst A l w' := by
 refine ⟨⟨h.sp.1, fun hn => ?_⟩, h.wd, h.len⟩
 obtain ⟨b', off', e, hc⟩ := h.sp.2 hn
 rw [hA] at e
 injection e with e
 injection e with e1 e2 e3
 subst e1; subst e2
 exact ⟨b, off, hA, fun j u hu => hg.cell (hc j u hu) hb⟩
theorem infoHd : (Tryz.prog.info? 103).map (fun i => (i.zero, i.size, i.bytes)) = some (some (.slice none 0 0), 1, 24) := by kernel_rfl
theorem LRow.pushed {W W' : World} {base : Nat} {A A' : Option Addr} {c c' : Nat} {O : List (Item Sp)} {x : List Sp} {B : Nat} {off cx : Nat} {ob : Obj} (h : LRow W base A c O) (hx : Lst (some ⟨B, off, none⟩) x W) (hx0 : x ≠ []) (hB : some B ≠ Value.ownBlock (.slice A O.length c))
  (ho : W'.ownsRow base 103 1 (.slice A' (O.length + 1) c') (O.length + 1) (icells (O ++ [(some ⟨B, off, none⟩, cx, x)]))) (hg : (W.alloc ob).grownBy W' (Value.ownBlock (.slice A O.length c)))
  (hat : Value.ownBlock (.slice A' (O.length + 1) c') = Value.ownBlock (.slice A O.length c) ∨ Value.ownBlock (.slice A' (O.length + 1) c') = some (W.heap.size + 1)) :
  LRow W' base A' c' (O ++ [(some ⟨B, off, none⟩, cx, x)]) := by
 have hl : (O ++ [((some ⟨B, off, none⟩, cx, x) : Item Sp)]).length = O.length + 1 := by simp
 have key : ∀ b off' y, Lst (some ⟨b, off', none⟩) y W → y ≠ [] → some b ≠ Value.ownBlock (.slice A O.length c) → Lst (some ⟨b, off', none⟩) y W' ∧ some b ≠ Value.ownBlock (.slice A' (O.length + 1) c') := by
  intro b off' y hy hy0 hb
  obtain ⟨b2, off2, _, e2, _, hc, _⟩ := hy.sp.at_ (j := 0) (List.length_pos_iff.2 hy0)
  injection e2 with e2
  injection e2 with e3 e4 e5
  subst e3; subst e4
  have hlt := lt_of_cell hc
  have hy2 : Lst (some ⟨b, off', none⟩) y (W.alloc ob) := hy.below ((Below.refl _ _).alloc (Nat.le_refl _) _)
  refine ⟨hy2.grown hg rfl hb, ?_⟩
  rcases hat with e | e
  ·rw [e]; exact hb
  ·rw [e]; intro e'; injection e' with e'; omega
 refine ⟨by rw [hl]; exact ho, fun i hi => ?_, fun e => by simp at e⟩
 rw [hl]
 rcases List.mem_append.1 hi with hi | hi
 ·obtain ⟨h1, h2, b, off', h3, h4⟩ := h.it i hi
  rw [h3] at h1 ⊢
  obtain ⟨k1, k2⟩ := key b off' _ h1 h2 h4
  exact ⟨k1, h2, b, off', rfl, k2⟩
 ·simp at hi; subst hi
  obtain ⟨k1, k2⟩ := key B off x hx hx0 hB
  exact ⟨k1, hx0, B, off, rfl, k2⟩
theorem LRow.bel {W W' w : World} {base : Nat} {A : Option Addr} {c n : Nat} {O : List (Item Sp)} {ob : Obj} (h : LRow W base A c O) (hb : Below base w W) (hg : (W.alloc ob).grownBy W' (Value.ownBlock (.slice A O.length c))) (hB : base ≤ W.heap.size) : Below base w W' :=
 below_pushed hb h.row (Nat.le_refl _) hB hg
def toKV (i : Item Sp) (k : Nat) : KV := { b := ((i.1.map Addr.block).getD 0), off := ((i.1.map Addr.off).getD 0), n := i.2.2.length, c := i.2.1, key := keyS i.2.2, ix := k }
def kvs (O : List (Item Sp)) : List KV := O.zipIdx.map fun p => toKV p.1 p.2
theorem kvs_len (O : List (Item Sp)) : (kvs O).length = O.length := by simp [kvs]
theorem kvs_at (O : List (Item Sp)) (k : Nat) : (kvs O)[k]? = (O[k]?).map fun i => toKV i k := by
 unfold kvs
 rw [List.getElem?_map, List.getElem?_zipIdx]
 cases O[k]? <;> simp
theorem kvs_ix (O : List (Item Sp)) (n : Nat) : IxB (kvs O) 0 n := by
 intro i j x y h1 h2 h3 e1 e2
 rw [kvs_at] at e1 e2
 obtain ⟨u, _, rfl⟩ := Option.map_eq_some_iff.1 e1
 obtain ⟨v, _, rfl⟩ := Option.map_eq_some_iff.1 e2
 exact h2
theorem kvs_val {O : List (Item Sp)} (h : ∀ i ∈ O, ∃ b off, i.1 = some ⟨b, off, none⟩) : (kvs O).map KV.val = icells O := by
 apply List.ext_getElem?
 intro k
 rw [List.getElem?_map, kvs_at]
 unfold icells
 rw [List.getElem?_map]
 rcases ho : O[k]? with _ | i
 ·rfl
 ·obtain ⟨b, off, e⟩ := h i (List.mem_of_getElem? ho)
  obtain ⟨ia, ic, il⟩ := i
  simp only at e
  subst e
  rfl
theorem LRow.kst {W : World} {base g c : Nat} {O : List (Item Sp)} (h : LRow W base (some ⟨g, 0, none⟩) c O) : KSt W base g c (kvs O) := by
 have hv := kvs_val (O := O) fun i hi => by obtain ⟨_, _, b, off, e, _⟩ := h.it i hi; exact ⟨b, off, e⟩
 refine ⟨by rw [hv, kvs_len]; exact h.row, fun x hx => ?_⟩
 obtain ⟨k, hk⟩ := List.getElem?_of_mem hx
 rw [kvs_at] at hk
 obtain ⟨i, hi, rfl⟩ := Option.map_eq_some_iff.1 hk
 obtain ⟨h1, h2, b, off, h3, h4⟩ := h.it i (List.mem_of_getElem? hi)
 obtain ⟨ia, ic, il⟩ := i
 simp only at h1 h2 h3
 subst h3
 cases il with
 | nil => exact absurd rfl h2
 | cons p l =>
  obtain ⟨b2, off2, q, e2, eq2, hc, _⟩ := h1.sp.at_ (j := 0) (by simp)
  injection e2 with e2
  injection e2 with e3 e4 e5
  subst e3; subst e4
  simp at eq2
  subst eq2
  have hl := h1.len
  refine ⟨fun e => h4 (by rw [show (toKV (some ⟨b, off, none⟩, ic, p :: l) k).b = b from rfl] at e; subst e; rfl), by show 1 ≤ (p :: l).length; simp, by show (p :: l).length < _; omega, ?_⟩
  show W.cell? ⟨b, off, none⟩ = some (.int .i64 p.1)
  simpa using hc
theorem LRow.sorted {W W' : World} {base g c : Nat} {O : List (Item Sp)} {ys : List KV} (h : LRow W base (some ⟨g, 0, none⟩) c O) (hp : ys.Perm (kvs O)) (hs : SrtB ys 0 ys.length) (hk : KSt W' base g c ys) (hg : W.grownBy W' (some g)) :
  ∃ O', O'.length = O.length ∧ LRow W' base (some ⟨g, 0, none⟩) c O' ∧ StabRel (bodies O) (bodies O') := by
 have hyl : ys.length = O.length := hp.length_eq.trans (kvs_len O)
 have hin : ∀ y ∈ ys, ∃ i, O[y.ix]? = some i ∧ y = toKV i y.ix := by
  intro y hy
  obtain ⟨k, hk⟩ := List.getElem?_of_mem (hp.mem_iff.1 hy)
  rw [kvs_at] at hk
  obtain ⟨i, hi, rfl⟩ := Option.map_eq_some_iff.1 hk
  exact ⟨i, hi, rfl⟩
 refine ⟨ys.map fun y => (O[y.ix]?).getD (none, 0, []), by simp [hyl], ⟨?_, ?_, ?_⟩, ys.map KV.ix, ?_, ?_, ?_⟩
 ·have e : icells (ys.map fun y => (O[y.ix]?).getD (none, 0, [])) = ys.map KV.val := by
   unfold icells
   rw [List.map_map]
   refine List.map_congr_left fun y hy => ?_
   obtain ⟨i, hi, e⟩ := hin y hy
   obtain ⟨_, _, b, off, h3, _⟩ := h.it i (List.mem_of_getElem? hi)
   simp only [Function.comp_apply, hi, Option.getD_some]
   rw [e]
   obtain ⟨ia, ic, il⟩ := i
   simp only at h3
   subst h3
   rfl
  have hr := hk.row
  rw [e, List.length_map]
  exact hr
 ·intro i hi
  obtain ⟨y, hy, rfl⟩ := List.mem_map.1 hi
  obtain ⟨i, hi, e⟩ := hin y hy
  simp only [hi, Option.getD_some]
  obtain ⟨h1, h2, b, off, h3, h4⟩ := h.it i (List.mem_of_getElem? hi)
  refine ⟨h1.grown hg h3 (fun e => h4 (by rw [e]; rfl)), h2, b, off, h3, fun e => h4 (by rw [e]; rfl)⟩
 ·intro e
  have : O = [] := by
   have := congrArg List.length e
   simp [hyl] at this
   exact this
  have := (h.nil this).1
  cases this
 ·have e : (kvs O).map KV.ix = List.range O.length := by
   apply List.ext_getElem?
   intro k
   rw [List.getElem?_map, kvs_at]
   by_cases hk : k < O.length
   ·rw [List.getElem?_eq_getElem hk, List.getElem?_range hk]; rfl
   ·rw [List.getElem?_eq_none (by omega), List.getElem?_eq_none (by simp; omega)]; rfl
  rw [bodies_length, ← e]
  exact hp.map _
 ·unfold bodies
  rw [List.map_map, List.map_map]
  refine List.map_congr_left fun y hy => ?_
  obtain ⟨i, hi, e⟩ := hin y hy
  have hlt := (List.getElem?_eq_some_iff.1 hi).1
  simp only [Function.comp_apply, hi, Option.getD_some]
  rw [getElem!_pos _ _ (by simpa using hlt)]
  simp [(List.getElem?_eq_some_iff.1 hi).2]
 ·rw [List.pairwise_map, List.pairwise_iff_getElem]
  intro i j hi hj hij
  have hlt := hs i j _ _ (Nat.zero_le _) hij hj (List.getElem?_eq_getElem hi) (List.getElem?_eq_getElem hj)
  have key : ∀ y ∈ ys, y.key = keyS (bodies O)[y.ix]! := by
   intro y hy
   obtain ⟨i, hi, e⟩ := hin y hy
   have hlt := (List.getElem?_eq_some_iff.1 hi).1
   rw [getElem!_pos _ _ (by rw [bodies_length]; exact hlt)]
   unfold bodies
   rw [List.getElem_map, (List.getElem?_eq_some_iff.1 hi).2]
   rw [e]; rfl
  rw [← key _ (List.getElem_mem hi), ← key _ (List.getElem_mem hj)]
  exact hlt
end Go.Proofs.YtlmkokeapbleoaaGreat
