/- Plain facts on the numbers of a set whose values are in another one: how part.Pre gathers them, span by span, block by block. No program in sight. Condition: none. -/
import Derived.Test.YtdaagdohhnhbdaaPartLaw
namespace Go.Proofs.Ytdaagdohhnhbdaa
open Go.RowKit
set_option linter.unusedVariables false

/-- gathered: of the spans ahead of the k-th all; they end ahead of L -/
def Pre1 (D T : Int) (m W : List Sp) (k : Nat) (o : List Sp) : Prop :=
  (∀ x, InS o x ↔ InS (m.take k) x ∧ InS W (x / D % T)) ∧ ∃ L : Int, 0 ≤ L ∧ (o.length : Int) ≤ L ∧ (∀ p ∈ m.drop k, L ≤ p.1) ∧ L ≤ 2097152
/-- .. and of the span (x1, x2) the blocks ahead of the j-th -/
def Pre2 (D T : Int) (m W : List Sp) (k : Nat) (x1 x2 j : Int) (o : List Sp) : Prop :=
  (∀ x, InS o x ↔ (InS (m.take k) x ∧ InS W (x / D % T)) ∨ (x1 ≤ x ∧ x ≤ x2 ∧ x / D / T < j ∧ InS W (x / D % T))) ∧
  ∃ L : Int, 0 ≤ L ∧ (o.length : Int) ≤ L ∧ (L ≤ x1 ∨ L ≤ j * T * D) ∧ L ≤ x2 + 1
/-- .. and of the j-th block the first i spans that are wanted -/
def Pre3 (D T : Int) (m W : List Sp) (k : Nat) (x1 x2 j : Int) (i : Nat) (o : List Sp) : Prop :=
  (∀ x, InS o x ↔ (InS (m.take k) x ∧ InS W (x / D % T)) ∨ (x1 ≤ x ∧ x ≤ x2 ∧ ((x / D / T < j ∧ InS W (x / D % T)) ∨ (x / D / T = j ∧ InS (W.take i) (x / D % T))))) ∧
  ∃ L : Int, 0 ≤ L ∧ (o.length : Int) ≤ L ∧ (∀ y ∈ W.drop i, L ≤ x1 ∨ L ≤ (j * T + y.1) * D) ∧ (L ≤ x1 ∨ L ≤ (j + 1) * T * D) ∧ L ≤ x2 + 1

theorem PlainF.drop_low {a : Int} {l : List Sp} (h : PlainF a l) {k : Nat} {p q : Sp} (hp : l[k]? = some p) (hq : q ∈ l.drop (k + 1)) : p.2 + 2 ≤ q.1 ∧ q.1 ≤ q.2 := by
  induction l generalizing a k with
  | nil => simp at hp
  | cons r l ih =>
    obtain ⟨h1, h2, h3, h4⟩ := h
    cases k with
    | zero =>
      simp at hp; subst hp
      have hm : q ∈ l := by simpa using hq
      have := PlainF.mem h4 hm
      have := h4.low (InS_of_mem hm (Int.le_refl _) (by omega))
      omega
    | succ k => exact ih h4 (by simpa using hp) (by simpa using hq)
theorem Pre1.start {D T : Int} {m W a : List Sp} (hm : Rep m (topM a)) : Pre1 D T m W 0 [] := by
  refine ⟨fun x => by simp [InS], 0, by omega, by simp, fun p hp => ?_, by omega⟩
  obtain ⟨k, hk⟩ := List.getElem?_of_mem (by simpa using hp : p ∈ m)
  exact (topM_mem hm (x1 := p.1) (x2 := p.2) hk).1
theorem Pre1.go {D T : Int} {m W a o : List Sp} {k : Nat} {x1 x2 : Int} (hD : 1 ≤ D) (hT : 1 ≤ T) (hm : Rep m (topM a)) (h : Pre1 D T m W k o) (hx : m[k]? = some (x1, x2)) :
    Pre2 D T m W k x1 x2 (x1 / D / T) o := by
  obtain ⟨h0, h12, h2⟩ := topM_mem hm hx
  refine ⟨fun x => ?_, ?_⟩
  · rw [h.1]
    constructor
    · exact .inl
    · rintro (g | ⟨g1, g2, g3, g4⟩)
      · exact g
      · have q1 : x1 / D ≤ x / D := Int.ediv_le_ediv (by omega) g1
        have q2 : x1 / D / T ≤ x / D / T := Int.ediv_le_ediv (by omega) q1
        omega
  · obtain ⟨L, l0, l1, l2, l3⟩ := h.2
    have := l2 (x1, x2) (by rw [drop_cons? hx]; simp)
    exact ⟨L, l0, l1, .inl this, by simp only at this; omega⟩
theorem Pre2.go {D T : Int} {m W o : List Sp} {k : Nat} {x1 x2 j : Int} (hD : 1 ≤ D) (hW : ∀ p ∈ W, 0 ≤ p.1 ∧ p.1 ≤ p.2 ∧ p.2 ≤ T - 1) (hT : 1 ≤ T) (h : Pre2 D T m W k x1 x2 j o) :
    Pre3 D T m W k x1 x2 j 0 o := by
  refine ⟨fun x => ?_, ?_⟩
  · rw [h.1]
    simp [InS]
  · obtain ⟨L, l0, l1, l2, l3⟩ := h.2
    refine ⟨L, l0, l1, fun y hy => ?_, ?_, l3⟩
    · rcases l2 with l2 | l2
      · exact .inl l2
      · right
        have := (hW y (by simpa using hy)).1
        have := Int.mul_le_mul_of_nonneg_right (show j * T ≤ j * T + y.1 by omega) (show 0 ≤ D by omega)
        omega
    · rcases l2 with l2 | l2
      · exact .inl l2
      · right
        have e : (j + 1) * T = j * T + T := by rw [Int.add_mul, Int.one_mul]
        rw [e]
        have := Int.mul_le_mul_of_nonneg_right (show j * T ≤ j * T + T by omega) (show 0 ≤ D by omega)
        omega
theorem Pre3.skip {D T : Int} {m W o : List Sp} {k i : Nat} {x1 x2 j y1 y2 : Int} (hD : 1 ≤ D) (hT : 1 ≤ T) (hW : ∀ p ∈ W, 0 ≤ p.1 ∧ p.1 ≤ p.2 ∧ p.2 ≤ T - 1) (h : Pre3 D T m W k x1 x2 j i o) (hy : W[i]? = some (y1, y2))
    (hle : ¬ max x1 ((j * T + y1) * D) ≤ min x2 ((j * T + y2 + 1) * D - 1)) : Pre3 D T m W k x1 x2 j (i + 1) o := by
  have hyW := hW (y1, y2) (List.mem_of_getElem? hy)
  refine ⟨fun x => ?_, ?_⟩
  · rw [h.1, take_snoc? hy, InS_append, InS_one]
    have := pre_span (D := D) (T := T) (x1 := x1) (x2 := x2) (y1 := y1) (y2 := y2) (j := j) (x := x) hD hT hyW.1 hyW.2.2
    have hn : ¬ (x1 ≤ x ∧ x ≤ x2 ∧ x / D / T = j ∧ y1 ≤ x / D % T ∧ x / D % T ≤ y2) := fun g => by
      have := this.2 g; omega
    grind
  · obtain ⟨L, l0, l1, l2, l3⟩ := h.2
    exact ⟨L, l0, l1, fun y g => l2 y (by rw [drop_cons? hy]; exact List.mem_cons_of_mem _ g), l3⟩
theorem Pre3.push {D T : Int} {m W o : List Sp} {k i : Nat} {x1 x2 j y1 y2 lo hi : Int} (hD : 1 ≤ D) (hT : 1 ≤ T) (hWp : PlainF (-1073741826) W) (hW : ∀ p ∈ W, 0 ≤ p.1 ∧ p.1 ≤ p.2 ∧ p.2 ≤ T - 1) (h : Pre3 D T m W k x1 x2 j i o) (hy : W[i]? = some (y1, y2))
    (hx0 : 0 ≤ x1) (hlo : max x1 ((j * T + y1) * D) = lo) (hhi : min x2 ((j * T + y2 + 1) * D - 1) = hi) (hle : lo ≤ hi) : Pre3 D T m W k x1 x2 j (i + 1) (o ++ [(lo, hi)]) := by
  have hyW := hW (y1, y2) (List.mem_of_getElem? hy)
  refine ⟨fun x => ?_, ?_⟩
  · rw [InS_append, InS_one, h.1, take_snoc? hy, InS_append, InS_one]
    have := pre_span (D := D) (T := T) (x1 := x1) (x2 := x2) (y1 := y1) (y2 := y2) (j := j) (x := x) hD hT hyW.1 hyW.2.2
    rw [hlo, hhi] at this
    grind
  · obtain ⟨L, l0, l1, l2, l3, l4⟩ := h.2
    have g1 := l2 (y1, y2) (by rw [drop_cons? hy]; simp)
    simp only at g1 hyW
    have hLlo : L ≤ lo := by omega
    refine ⟨hi + 1, by omega, by simp; omega, fun y hyy => ?_, ?_, by omega⟩
    · right
      have := (hWp.drop_low hy hyy).1
      simp only at this
      have := Int.mul_le_mul_of_nonneg_right (show j * T + y2 + 1 ≤ j * T + y.1 by omega) (show 0 ≤ D by omega)
      omega
    · right
      have e : (j + 1) * T = j * T + T := by rw [Int.add_mul, Int.one_mul]
      rw [e]
      have := Int.mul_le_mul_of_nonneg_right (show j * T + y2 + 1 ≤ j * T + T by omega) (show 0 ≤ D by omega)
      omega
theorem Pre3.done {D T : Int} {m W o : List Sp} {k : Nat} {x1 x2 j : Int} (h : Pre3 D T m W k x1 x2 j W.length o) : Pre2 D T m W k x1 x2 (j + 1) o := by
  refine ⟨fun x => ?_, ?_⟩
  · rw [h.1, List.take_length]
    have : x / D / T < j + 1 ↔ (x / D / T < j ∨ x / D / T = j) := by omega
    rw [this]
    grind
  · obtain ⟨L, l0, l1, l2, l3, l4⟩ := h.2
    exact ⟨L, l0, l1, l3, l4⟩
theorem Pre2.done {D T : Int} {m W a o : List Sp} {k : Nat} {x1 x2 j : Int} (hD : 1 ≤ D) (hT : 1 ≤ T) (hm : Rep m (topM a)) (h : Pre2 D T m W k x1 x2 j o) (hx : m[k]? = some (x1, x2)) (hj : x2 / D / T < j) : Pre1 D T m W (k + 1) o := by
  obtain ⟨h0, h12, h2⟩ := topM_mem hm hx
  refine ⟨fun x => ?_, ?_⟩
  · rw [h.1, InS_take_succ hx]
    have : x ≤ x2 → x / D / T < j := fun g => by
      have q1 : x / D ≤ x2 / D := Int.ediv_le_ediv (by omega) g
      have q2 : x / D / T ≤ x2 / D / T := Int.ediv_le_ediv (by omega) q1
      omega
    grind
  · obtain ⟨L, l0, l1, l2, l3⟩ := h.2
    refine ⟨L, l0, l1, fun p hp => ?_, by omega⟩
    have := (PlainF.drop_low hm.1 hx hp).1
    simp only at this
    omega
/-- spans of numbers of 21 bits -/
def In21 (o : List Sp) : Prop := ∀ p ∈ o, 0 ≤ p.1 ∧ p.1 ≤ p.2 ∧ p.2 ≤ 2097151
theorem In21.push {o : List Sp} (h : In21 o) {a b : Int} (h0 : 0 ≤ a) (h1 : a ≤ b) (h2 : b ≤ 2097151) : In21 (o ++ [(a, b)]) := by
  intro p hp
  rcases List.mem_append.1 hp with g | g
  · exact h p g
  · simp at g; subst g; exact ⟨h0, h1, h2⟩
theorem In21.spw {o : List Sp} (h : In21 o) : SpW o := fun p hp => by have := h p hp; omega
theorem Pre1.len {D T : Int} {m W o : List Sp} {k : Nat} (h : Pre1 D T m W k o) : o.length ≤ 2097152 := by obtain ⟨L, l0, l1, l2, l3⟩ := h.2; omega
theorem Pre2.len {D T : Int} {m W o : List Sp} {k : Nat} {x1 x2 j : Int} (hx : x2 ≤ 2097151) (h : Pre2 D T m W k x1 x2 j o) : o.length ≤ 2097152 := by obtain ⟨L, l0, l1, l2, l3⟩ := h.2; omega
theorem Pre3.len {D T : Int} {m W o : List Sp} {k i : Nat} {x1 x2 j : Int} (hx : x2 ≤ 2097151) (h : Pre3 D T m W k x1 x2 j i o) : o.length ≤ 2097152 := by obtain ⟨L, l0, l1, l2, l3, l4⟩ := h.2; omega
/-- what is wanted of the values, as bits that aren't moved up yet -/
theorem want_mem {t u : Int} {g W : List Sp} (hW : Rep W (TkS t u g)) : ∀ p ∈ W, 0 ≤ p.1 ∧ p.1 ≤ p.2 ∧ p.2 ≤ pw t - 1 := by
  intro p hp
  have hp' := PlainF.mem hW.1 hp
  have h12 : p.1 ≤ p.2 := by omega
  have g1 := (hW.2 p.1).1 (InS_of_mem hp (Int.le_refl _) h12)
  have g2 := (hW.2 p.2).1 (InS_of_mem hp h12 (Int.le_refl _))
  exact ⟨g1.1, h12, g2.2.1⟩
theorem Pre1.rep {d t u : Int} {a g m W o r : List Sp} (hb : bitsB d t u = true) (hm : Rep m (topM a)) (hW : Rep W (TkS t u g)) (h : Pre1 (pw d) (pw t) m W m.length o) (hr : Rep r (Mem o)) : Rep r (PreS d t u a g) := by
  refine hr.congr fun x => ?_
  have e : InS o x ↔ PreS d t u a g x := by
    rw [h.1, List.take_length, hm.2, topM_iff, hW.2]
    unfold TkS PreS pval
    have hp := pw_pos t
    have g0 := Int.emod_nonneg (x / pw d) (b := pw t) (by omega)
    have g1 := Int.emod_lt_of_pos (x / pw d) (b := pw t) (by omega)
    grind
  rw [← e]
  refine ⟨fun g => g.2.2, fun g => ?_⟩
  have := (e.1 g).2.1
  exact ⟨this.1, this.2.1, g⟩
end Go.Proofs.Ytdaagdohhnhbdaa
