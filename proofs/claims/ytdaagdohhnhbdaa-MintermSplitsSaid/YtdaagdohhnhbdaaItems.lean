/- Slices of slices: their headers as cells, what each of them holds; a header more, a header in place. No function of the program in sight. Condition: none. -/
import Derived.Test.YtdaagdohhnhbdaaState
import Derived.Test.YtdaagdohhnhbdaaAppend
namespace Go.Proofs.Ytdaagdohhnhbdaa
open Go.RowKit
set_option linter.unusedVariables false

abbrev Item (α : Type) := Option Addr × Nat × List α
def ival {α : Type} (i : Item α) : Value := .slice i.1 i.2.2.length i.2.1
def icells {α : Type} (L : List (Item α)) : List Value := L.map ival
def bodies {α : Type} (L : List (Item α)) : List (List α) := L.map fun i => i.2.2
theorem icells_length {α : Type} (L : List (Item α)) : (icells L).length = L.length := by simp [icells]
theorem icells_append {α : Type} (L M : List (Item α)) : icells (L ++ M) = icells L ++ icells M := by simp [icells]
theorem bodies_append {α : Type} (L M : List (Item α)) : bodies (L ++ M) = bodies L ++ bodies M := by simp [bodies]
theorem bodies_length {α : Type} (L : List (Item α)) : (bodies L).length = L.length := by simp [bodies]
theorem icells_one {α : Type} (L : List (Item α)) : ∀ u ∈ icells L, u.oneCell' = true := by
  intro u hu
  obtain ⟨i, _, rfl⟩ := List.mem_map.1 hu
  rfl
theorem icells_at {α : Type} {L : List (Item α)} {j : Nat} {i : Item α} (h : L[j]? = some i) : (icells L)[j]? = some (.slice i.1 i.2.2.length i.2.1) := by
  unfold icells; rw [List.getElem?_map, h]; rfl
theorem icells_set {α : Type} (L : List (Item α)) (j : Nat) (i : Item α) : (icells L).set j (.slice i.1 i.2.2.length i.2.1) = icells (L.set j i) := by
  unfold icells; rw [List.map_set]; rfl

/-- what holds of a slice's own elements stays so -/
def Lasts {α : Type} (R : Option Addr → List α → World → Prop) : Prop := ∀ A l w w', R A l w → Below w.heap.size w w' → R A l w'
def AllIt {α : Type} (R : Option Addr → List α → World → Prop) (L : List (Item α)) (w : World) : Prop := ∀ i ∈ L, R i.1 i.2.2 w
/-- a slice of slices -/
structure Items {α : Type} (R : Option Addr → List α → World → Prop) (A : Option Addr) (n : Nat) (L : List (Item α)) (w : World) : Prop where
  sl : Sl w 1 A n (icells L)
  it : AllIt R L w
section
variable {α : Type} {R : Option Addr → List α → World → Prop} {A : Option Addr} {n : Nat} {L M : List (Item α)} {w w' : World}
theorem AllIt.below (h : AllIt R L w) (hR : Lasts R) (hb : Below w.heap.size w w') : AllIt R L w' := fun i hi => hR _ _ _ _ (h i hi) hb
theorem AllIt.append (h : AllIt R L w) (k : AllIt R M w) : AllIt R (L ++ M) w := fun i hi => (List.mem_append.1 hi).elim (h i) (k i)
theorem AllIt.one {i : Item α} (h : R i.1 i.2.2 w) : AllIt R [i] w := fun j hj => by simp at hj; subst hj; exact h
theorem AllIt.sub (h : AllIt R L w) (hs : ∀ i ∈ M, i ∈ L) : AllIt R M w := fun i hi => h i (hs i hi)
theorem AllIt.at_ (h : AllIt R L w) {j : Nat} {i : Item α} (hj : L[j]? = some i) : R i.1 i.2.2 w := h i (List.mem_of_getElem? hj)
theorem Items.len (h : Items R A n L w) : L.length = n := by have := h.sl.len; rw [icells_length] at this; omega
theorem Items.at_ (h : Items R A n L w) {j : Nat} (hj : j < n) : ∃ b off a c l, A = some ⟨b, off, none⟩ ∧ L[j]? = some (a, c, l) ∧ w.cell? ⟨b, off + j, none⟩ = some (.slice a l.length c) ∧ R a l w := by
  obtain ⟨b, off, hA, hc⟩ := h.sl.2 (by omega)
  have hl := h.len
  have hx : L[j]? = some (L[j]'(by omega)) := List.getElem?_eq_getElem (by omega)
  exact ⟨b, off, _, _, _, hA, hx, hc j _ (icells_at hx), h.it.at_ hx⟩
theorem Items.below (h : Items R A n L w) (hR : Lasts R) (hb : Below w.heap.size w w') : Items R A n L w' := ⟨Sl.below (B := 0) h.sl hb, h.it.below hR hb⟩
theorem Items.nil_ (R : Option Addr → List α → World → Prop) (w : World) (A : Option Addr) : Items R A 0 [] w := ⟨Sl.nil_ _ _ _, fun i hi => by cases hi⟩
theorem Items.take {k : Nat} (h : Items R A n L w) (hk : k ≤ n) : Items R A k (L.take k) w := by
  refine ⟨?_, h.it.sub fun i hi => List.mem_of_mem_take hi⟩
  have := Sl.take h.sl hk
  rwa [Nat.mul_one, icells, ← List.map_take] at this
end
end Go.Proofs.Ytdaagdohhnhbdaa
