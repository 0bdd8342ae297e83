/- The plain laws of span.Meet, span.Minus and span.Count: what is in both of two plain lists, what lies between the spans of one, how many numbers. No program in sight. Condition: none. -/
import Derived.Test.YtdaagdohhnhbdaaNormLaw
namespace Go.Proofs.Ytdaagdohhnhbdaa
open Go.RowKit
set_option linter.unusedVariables false

structure MtInv (r s p q o : List Sp) : Prop where
  pl : ∃ a, -1073741826 ≤ a ∧ PlainF a p
  ql : ∃ a, -1073741826 ≤ a ∧ PlainF a q
  plain : Plain o
  same : ∀ x, (InS o x ∨ (InS p x ∧ InS q x)) ↔ (InS r x ∧ InS s x)
  sep : ∀ t ∈ o, ∀ x, InS p x → InS q x → t.2 + 1 < x
theorem MtInv.start {r s : List Sp} (hr : Plain r) (hs : Plain s) : MtInv r s r s [] := ⟨⟨_, Int.le_refl _, hr⟩, ⟨_, Int.le_refl _, hs⟩, trivial, fun x => by simp [InS], by simp⟩
theorem MtInv.rep {r s p q o : List Sp} {S T : Int → Prop} (h : MtInv r s p q o) (he : p = [] ∨ q = []) (hr : Rep r S) (hs : Rep s T) : Rep o (fun x => S x ∧ T x) := by
  refine ⟨h.plain, fun x => ?_⟩
  have := h.same x
  rw [hr.2, hs.2] at this
  show InS o x ↔ (S x ∧ T x)
  rw [← this]
  rcases he with rfl | rfl <;> simp [InS]
/-- what two first spans have in common -/
def both (x y : Sp) : List Sp := if max x.1 y.1 ≤ min x.2 y.2 then [(max x.1 y.1, min x.2 y.2)] else []
theorem both_InS (x y : Sp) (z : Int) : InS (both x y) z ↔ (x.1 ≤ z ∧ z ≤ x.2) ∧ (y.1 ≤ z ∧ z ≤ y.2) := by
  unfold both
  split
  · simp only [InS, or_false]; omega
  · rename_i h; simp only [InS, false_iff]; omega
theorem both_mem {x y t : Sp} (h : t ∈ both x y) : t = (max x.1 y.1, min x.2 y.2) ∧ max x.1 y.1 ≤ min x.2 y.2 := by
  unfold both at h
  split at h
  · rename_i g; simp at h; exact ⟨h, g⟩
  · cases h
theorem MtInv.left {r s p q o : List Sp} {x y : Sp} (h : MtInv r s (x :: p) (y :: q) o) (hc : x.2 < y.2) : MtInv r s p (y :: q) (o ++ both x y) := by
  obtain ⟨a, ha, h1, h2, h3, h4⟩ := h.pl
  obtain ⟨b, hb, g1, g2, g3, g4⟩ := h.ql
  refine ⟨⟨x.2, by omega, h4⟩, ⟨b, hb, g1, g2, g3, g4⟩, ?_, fun z => ?_, ?_⟩
  · unfold both
    split
    · rename_i hm
      refine PlainF.snoc h.plain (by simp only; omega) (fun t ht => ?_) hm (by simp only; omega)
      exact h.sep t ht _ (.inl ⟨by simp only; omega, by simp only; omega⟩) (.inl ⟨by simp only; omega, by simp only; omega⟩)
    · rw [List.append_nil]; exact h.plain
  · rw [← h.same z, InS_append, both_InS]
    constructor
    · rintro ((e | e) | e)
      · exact .inl e
      · exact .inr ⟨.inl e.1, .inl e.2⟩
      · exact .inr ⟨.inr e.1, e.2⟩
    · rintro (e | ⟨e1 | e1, e2⟩)
      · exact .inl (.inl e)
      · rcases e2 with e2 | e2
        · exact .inl (.inr ⟨e1, e2⟩)
        · have := g4.low e2; omega
      · exact .inr ⟨e1, e2⟩
  · intro t ht z hp hq
    rcases List.mem_append.1 ht with ht | ht
    · exact h.sep t ht z (.inr hp) hq
    · obtain ⟨rfl, _⟩ := both_mem ht
      have := h4.low hp
      simp only; omega
theorem MtInv.right {r s p q o : List Sp} {x y : Sp} (h : MtInv r s (x :: p) (y :: q) o) (hc : ¬ x.2 < y.2) : MtInv r s (x :: p) q (o ++ both x y) := by
  obtain ⟨a, ha, h1, h2, h3, h4⟩ := h.pl
  obtain ⟨b, hb, g1, g2, g3, g4⟩ := h.ql
  refine ⟨⟨a, ha, h1, h2, h3, h4⟩, ⟨y.2, by omega, g4⟩, ?_, fun z => ?_, ?_⟩
  · unfold both
    split
    · rename_i hm
      refine PlainF.snoc h.plain (by simp only; omega) (fun t ht => ?_) hm (by simp only; omega)
      exact h.sep t ht _ (.inl ⟨by simp only; omega, by simp only; omega⟩) (.inl ⟨by simp only; omega, by simp only; omega⟩)
    · rw [List.append_nil]; exact h.plain
  · rw [← h.same z, InS_append, both_InS]
    constructor
    · rintro ((e | e) | e)
      · exact .inl e
      · exact .inr ⟨.inl e.1, .inl e.2⟩
      · exact .inr ⟨e.1, .inr e.2⟩
    · rintro (e | ⟨e1, e2 | e2⟩)
      · exact .inl (.inl e)
      · rcases e1 with e1 | e1
        · exact .inl (.inr ⟨e1, e2⟩)
        · have := h4.low e1; omega
      · exact .inr ⟨e1, e2⟩
  · intro t ht z hp hq
    rcases List.mem_append.1 ht with ht | ht
    · exact h.sep t ht z hp (.inr hq)
    · obtain ⟨rfl, _⟩ := both_mem ht
      have := g4.low hq
      simp only; omega
theorem both_length (x y : Sp) : (both x y).length ≤ 1 := by unfold both; split <;> simp

/-- between the first k spans -/
structure NgInv (r : List Sp) (k : Nat) (f : Int) (o : List Sp) : Prop where
  same : ∀ z, InS o z ↔ (-1073741824 ≤ z ∧ z < f ∧ ¬ InS (r.take k) z)
  low : ∀ z, InS (r.take k) z → z < f
  rest : PlainF (f - 1) (r.drop k) ∨ (k = 0 ∧ f = -1073741824 ∧ Plain r)
  bound : -1073741824 ≤ f ∧ f ≤ 1073741825
  len : o.length = k
  word : ∀ p ∈ o, (-1073741826 ≤ p.1 ∧ p.1 ≤ 1073741825) ∧ (-1073741826 ≤ p.2 ∧ p.2 ≤ 1073741825)
theorem NgInv.start {r : List Sp} (h : Plain r) : NgInv r 0 (-1073741824) [] := by
  refine ⟨fun z => ?_, by simp [InS], .inr ⟨rfl, rfl, h⟩, by omega, rfl, by simp⟩
  simp only [InS, List.take_zero, not_false_eq_true, and_true, false_iff]; omega
theorem NgInv.head {r o : List Sp} {k : Nat} {f : Int} {x : Sp} (h : NgInv r k f o) (hx : r[k]? = some x) : f ≤ x.1 ∧ x.1 ≤ x.2 ∧ x.2 ≤ 1073741824 ∧ PlainF x.2 (r.drop (k + 1)) := by
  rcases h.rest with g | ⟨rfl, rfl, g⟩
  · rw [drop_cons? hx] at g
    obtain ⟨a1, a2, a3, a4⟩ := g
    exact ⟨by omega, a2, a3, a4⟩
  · have e := drop_cons? hx
    rw [List.drop_zero] at e
    rw [e] at g
    obtain ⟨a1, a2, a3, a4⟩ := g
    exact ⟨by omega, a2, a3, a4⟩
theorem NgInv.step {r o : List Sp} {k : Nat} {f : Int} {x : Sp} (h : NgInv r k f o) (hx : r[k]? = some x) : NgInv r (k + 1) (x.2 + 1) (o ++ [(f, x.1 - 1)]) := by
  obtain ⟨h1, h2, h3, h4⟩ := h.head hx
  have hb := h.bound
  refine ⟨fun z => ?_, fun z hz => ?_, .inl ?_, by omega, by simp [h.len], ?_⟩
  · rw [InS_append, h.same, take_snoc? hx, InS_append]
    simp only [InS, or_false]
    have hl := h.low z
    constructor
    · rintro (⟨e1, e2, e3⟩ | ⟨e1, e2⟩)
      · exact ⟨e1, by omega, by rintro (g | g); exact e3 g; omega⟩
      · exact ⟨by omega, by omega, by rintro (g | g); have := hl g; omega; omega⟩
    · rintro ⟨e1, e2, e3⟩
      by_cases g : z < f
      · exact .inl ⟨e1, g, fun g' => e3 (.inl g')⟩
      · exact .inr ⟨by omega, by
          have : ¬ (x.1 ≤ z ∧ z ≤ x.2) := fun g' => e3 (.inr g')
          omega⟩
  · rw [take_snoc? hx, InS_append] at hz
    simp only [InS, or_false] at hz
    rcases hz with g | g
    · have := h.low z g; omega
    · omega
  · rw [Int.add_sub_cancel]; exact h4
  · intro p hp
    rcases List.mem_append.1 hp with hp | hp
    · exact h.word p hp
    · simp at hp; subst hp; simp only; omega
theorem NgInv.done {r o : List Sp} {f : Int} {S : Int → Prop} (h : NgInv r r.length f o) (hr : Rep r S) : (∀ z, Mem (o ++ [(f, 1073741824)]) z ↔ (-1073741824 ≤ z ∧ z ≤ 1073741824 ∧ ¬ S z)) ∧ SpW (o ++ [(f, 1073741824)]) := by
  have hb := h.bound
  refine ⟨fun z => ?_, ?_⟩
  · unfold Mem
    have hs := h.same z
    have hl := h.low z
    rw [List.take_length] at hs hl
    rw [InS_append, hs, ← hr.2]
    simp only [InS, or_false]
    constructor
    · rintro ⟨e1, e2, (e3 | e3)⟩
      · exact ⟨e1, e2, e3.2.2⟩
      · exact ⟨e1, e2, fun g => by have := hl g; omega⟩
    · rintro ⟨e1, e2, e3⟩
      by_cases g : z < f
      · exact ⟨e1, e2, .inl ⟨e1, g, e3⟩⟩
      · exact ⟨e1, e2, .inr ⟨by omega, by omega⟩⟩
  · intro p hp
    rcases List.mem_append.1 hp with hp | hp
    · have := h.word p hp; omega
    · simp at hp; subst hp; simp only; omega
theorem cnt_nil : cnt [] = 0 := rfl
theorem cnt_cons (p : Sp) (l : List Sp) : cnt (p :: l) = p.2 - p.1 + 1 + cnt l := by simp [cnt]
theorem cnt_append (l m : List Sp) : cnt (l ++ m) = cnt l + cnt m := by simp [cnt]
theorem PlainF.cnt_le {a : Int} {l : List Sp} (h : PlainF a l) (ha : a ≤ 1073741824) : 0 ≤ cnt l ∧ cnt l ≤ 1073741824 - a := by
  induction l generalizing a with
  | nil => rw [cnt_nil]; omega
  | cons p l ih =>
    obtain ⟨h1, h2, h3, h4⟩ := h
    have := ih h4 h3
    rw [cnt_cons]; omega
theorem Plain.cnt_take {l : List Sp} (h : Plain l) (k : Nat) : 0 ≤ cnt (l.take k) ∧ cnt (l.take k) ≤ 2147483650 := by
  have h1 : PlainF (-1073741826) (l.take k) := by
    have : PlainF (-1073741826) (l.take k ++ l.drop k) := by rw [List.take_append_drop]; exact h
    exact PlainF.init this
  have := PlainF.cnt_le h1 (by omega)
  omega
end Go.Proofs.Ytdaagdohhnhbdaa
