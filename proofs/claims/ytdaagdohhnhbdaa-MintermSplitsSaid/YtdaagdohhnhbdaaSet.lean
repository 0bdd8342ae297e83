/- Plain facts on lists of spans as sets of whole numbers: a plain list is the only one of its set. No program in sight. Condition: none. -/
import Derived.Test.YtdaagdohhnhbdaaSpanEq
namespace Go.Proofs.Ytdaagdohhnhbdaa
open Go.RowKit
set_option linter.unusedVariables false

abbrev Sp := Int × Int
/-- is a number in a list of spans? -/
def InS : List Sp → Int → Prop
  | [], _ => False
  | p :: l, x => (p.1 ≤ x ∧ x ≤ p.2) ∨ InS l x
/-- .. and one of the numbers that sets have -/
def Mem (l : List Sp) (x : Int) : Prop := -1073741824 ≤ x ∧ x ≤ 1073741824 ∧ InS l x
/-- rising, apart by one at least, behind a number -/
def PlainF : Int → List Sp → Prop
  | _, [] => True
  | a, p :: l => a + 1 < p.1 ∧ p.1 ≤ p.2 ∧ p.2 ≤ 1073741824 ∧ PlainF p.2 l
def Plain (l : List Sp) : Prop := PlainF (-1073741826) l
/-- the plain list of a set -/
def Rep (l : List Sp) (S : Int → Prop) : Prop := Plain l ∧ ∀ x, InS l x ↔ S x

theorem InS_append (l m : List Sp) (x : Int) : InS (l ++ m) x ↔ InS l x ∨ InS m x := by
  induction l with
  | nil => simp [InS]
  | cons p l ih => simp [InS, ih, or_assoc]
theorem InS_of_mem {l : List Sp} {p : Sp} (h : p ∈ l) {x : Int} (h1 : p.1 ≤ x) (h2 : x ≤ p.2) : InS l x := by
  induction l with
  | nil => cases h
  | cons q l ih =>
    rcases List.mem_cons.1 h with rfl | h
    · exact .inl ⟨h1, h2⟩
    · exact .inr (ih h)
theorem InS_iff (l : List Sp) (x : Int) : InS l x ↔ ∃ p ∈ l, p.1 ≤ x ∧ x ≤ p.2 := by
  induction l with
  | nil => simp [InS]
  | cons p l ih => simp [InS, ih]
theorem PlainF.low {a : Int} {l : List Sp} (h : PlainF a l) {x : Int} (hx : InS l x) : a + 1 < x := by
  induction l generalizing a with
  | nil => cases hx
  | cons p l ih =>
    obtain ⟨h1, h2, h3, h4⟩ := h
    rcases hx with hx | hx
    · omega
    · have := ih h4 hx; omega
theorem PlainF.high {a : Int} {l : List Sp} (h : PlainF a l) {x : Int} (hx : InS l x) : x ≤ 1073741824 := by
  induction l generalizing a with
  | nil => cases hx
  | cons p l ih =>
    obtain ⟨h1, h2, h3, h4⟩ := h
    rcases hx with hx | hx
    · omega
    · exact ih h4 hx
theorem Plain.low {l : List Sp} (h : Plain l) {x : Int} (hx : InS l x) : -1073741824 ≤ x := by have := PlainF.low h hx; omega
theorem Plain.mem {l : List Sp} (h : Plain l) (x : Int) : Mem l x ↔ InS l x := ⟨fun hx => hx.2.2, fun hx => ⟨h.low hx, PlainF.high h hx, hx⟩⟩
theorem PlainF.mono {a b : Int} {l : List Sp} (h : PlainF a l) (hb : b ≤ a) : PlainF b l := by
  cases l with
  | nil => trivial
  | cons p l => obtain ⟨h1, h2⟩ := h; exact ⟨by omega, h2⟩

theorem PlainF.unique {a : Int} {l m : List Sp} (hl : PlainF a l) (hm : PlainF a m) (h : ∀ x, InS l x ↔ InS m x) : l = m := by
  induction l generalizing a m with
  | nil =>
    cases m with
    | nil => rfl
    | cons q m => exact absurd ((h q.1).2 (.inl ⟨by omega, hm.2.1⟩)) (by simp [InS])
  | cons p l ih =>
    cases m with
    | nil => exact absurd ((h p.1).1 (.inl ⟨by omega, hl.2.1⟩)) (by simp [InS])
    | cons q m =>
      obtain ⟨a1, a2, a3, a4⟩ := hl
      obtain ⟨b1, b2, b3, b4⟩ := hm
      have e1 : p.1 = q.1 := by
        have h1 := (h p.1).1 (.inl ⟨by omega, a2⟩)
        have h2 := (h q.1).2 (.inl ⟨by omega, b2⟩)
        have g1 : q.1 ≤ p.1 := by
          rcases h1 with h1 | h1
          · exact h1.1
          · have := b4.low h1; omega
        have g2 : p.1 ≤ q.1 := by
          rcases h2 with h2 | h2
          · exact h2.1
          · have := a4.low h2; omega
        omega
      have e2 : p.2 = q.2 := by
        have g1 : ¬ p.2 < q.2 := fun g => by
          rcases (h (p.2 + 1)).2 (.inl ⟨by omega, by omega⟩) with h1 | h1
          · omega
          · have := a4.low h1; omega
        have g2 : ¬ q.2 < p.2 := fun g => by
          rcases (h (q.2 + 1)).1 (.inl ⟨by omega, by omega⟩) with h1 | h1
          · omega
          · have := b4.low h1; omega
        omega
      have e : p = q := Prod.ext e1 e2
      subst e
      rw [ih a4 b4 fun x => ?_]
      constructor
      · intro hx
        have := a4.low hx
        rcases (h x).1 (.inr hx) with h1 | h1
        · omega
        · exact h1
      · intro hx
        have := b4.low hx
        rcases (h x).2 (.inr hx) with h1 | h1
        · omega
        · exact h1
theorem Rep.unique {l m : List Sp} {S T : Int → Prop} (h : Rep l S) (k : Rep m T) (hST : ∀ x, S x ↔ T x) : l = m :=
  PlainF.unique h.1 k.1 fun x => by rw [h.2, k.2, hST]
theorem Rep.congr {l : List Sp} {S T : Int → Prop} (h : Rep l S) (hST : ∀ x, S x ↔ T x) : Rep l T := ⟨h.1, fun x => (h.2 x).trans (hST x)⟩
theorem Rep.self {l : List Sp} (h : Plain l) : Rep l (Mem l) := ⟨h, fun x => (h.mem x).symm⟩

/-- one span more behind the last -/
theorem PlainF.snoc {a : Int} {l : List Sp} {q : Sp} (h : PlainF a l) (hq : a + 1 < q.1) (hl : ∀ p ∈ l, p.2 + 1 < q.1) (h2 : q.1 ≤ q.2) (h3 : q.2 ≤ 1073741824) : PlainF a (l ++ [q]) := by
  induction l generalizing a with
  | nil => exact ⟨hq, h2, h3, trivial⟩
  | cons p l ih =>
    obtain ⟨a1, a2, a3, a4⟩ := h
    exact ⟨a1, a2, a3, ih a4 (hl p (by simp)) fun r hr => hl r (by simp [hr])⟩
theorem PlainF.init {a : Int} {l m : List Sp} (h : PlainF a (l ++ m)) : PlainF a l := by
  induction l generalizing a with
  | nil => trivial
  | cons p l ih => obtain ⟨a1, a2, a3, a4⟩ := h; exact ⟨a1, a2, a3, ih a4⟩
theorem PlainF.last {a : Int} {l : List Sp} {q : Sp} (h : PlainF a (l ++ [q])) : a + 1 < q.1 ∧ (∀ p ∈ l, p.2 + 1 < q.1) ∧ q.1 ≤ q.2 ∧ q.2 ≤ 1073741824 := by
  induction l generalizing a with
  | nil => obtain ⟨a1, a2, a3, _⟩ := h; exact ⟨a1, by simp, a2, a3⟩
  | cons p l ih =>
    obtain ⟨a1, a2, a3, a4⟩ := h
    obtain ⟨b1, b2, b3, b4⟩ := ih a4
    refine ⟨by omega, fun r hr => ?_, b3, b4⟩
    rcases List.mem_cons.1 hr with rfl | hr
    · omega
    · exact b2 r hr
theorem PlainF.tail {a : Int} {p : Sp} {l : List Sp} (h : PlainF a (p :: l)) : PlainF p.2 l := h.2.2.2

/-- how many numbers -/
def cnt (l : List Sp) : Int := (l.map fun p => p.2 - p.1 + 1).sum
/-- as a Bool, for a list that is written out -/
def plainB : Int → List Sp → Bool
  | _, [] => true
  | a, p :: l => decide (a + 1 < p.1) && decide (p.1 ≤ p.2) && decide (p.2 ≤ 1073741824) && plainB p.2 l
theorem plainB_iff (a : Int) (l : List Sp) : plainB a l = true ↔ PlainF a l := by
  induction l generalizing a with
  | nil => simp [plainB, PlainF]
  | cons p l ih => simp [plainB, PlainF, ih, and_assoc]
end Go.Proofs.Ytdaagdohhnhbdaa
