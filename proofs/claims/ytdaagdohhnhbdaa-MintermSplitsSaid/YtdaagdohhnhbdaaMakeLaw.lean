/- The plain law of umlautref01.Make: between two borders all numbers are alike. No program in sight. Condition: none. -/
import Derived.Test.YtdaagdohhnhbdaaBorders
namespace Go.Proofs.Ytdaagdohhnhbdaa
open Go.RowKit
set_option linter.unusedVariables false

def inHow (how : Int) (x y : Bool) : Bool := if how = 1 then x && y else if how = 2 then x && !y else x || y
/-- is a number in what is made? -/
def madeB (how : Int) (a b : List Sp) (x : Int) : Bool := inHow how (hasB a x) (hasB b x)
def lim (ys : List Int) (i : Nat) : Int := (ys[i]?).getD 1073741825

theorem hasB_next {done : List Sp} {ys : List Int} (h : BInv done ys) (a : List Sp) (ha : ∀ p ∈ a, p ∈ done) (x : Int) (hx0 : -1073741824 ≤ x) (hx1 : x < 1073741824) (hn : x + 1 ∉ ys) : hasB a x = hasB a (x + 1) := by
  rw [Bool.eq_iff_iff, hasB_iff, hasB_iff]
  unfold Mem
  have key : InS a x ↔ InS a (x + 1) := by
    rw [InS_iff, InS_iff]
    constructor
    · rintro ⟨p, hp, h1, h2⟩
      refine ⟨p, hp, by omega, ?_⟩
      have := (h.2.2.2.1 p (ha p hp)).2
      by_cases e : p.2 = x
      · exact absurd (e ▸ this (by omega) (by omega)) hn
      · omega
    · rintro ⟨p, hp, h1, h2⟩
      refine ⟨p, hp, ?_, by omega⟩
      have := (h.2.2.2.1 p (ha p hp)).1
      by_cases e : p.1 = x + 1
      · exact absurd (e ▸ this (by omega) (by omega)) hn
      · omega
  rw [key]
  exact ⟨fun ⟨_, _, g⟩ => ⟨by omega, by omega, g⟩, fun ⟨_, _, g⟩ => ⟨by omega, by omega, g⟩⟩
theorem lim_lt {ys : List Int} (h : Rise ys) (hb : ∀ y ∈ ys, -1073741824 ≤ y ∧ y ≤ 1073741824) (i : Nat) (y : Int) (hi : ys[i]? = some y) : y < lim ys (i + 1) ∧ lim ys (i + 1) ≤ 1073741825 := by
  unfold lim
  cases e : ys[i + 1]? with
  | none => have := hb y (List.mem_of_getElem? hi); simp; omega
  | some z =>
    have := h i (i + 1) y z (by omega) hi e
    have := hb z (List.mem_of_getElem? e)
    simp; omega
theorem no_border {ys : List Int} (h : Rise ys) (i : Nat) (y x : Int) (hi : ys[i]? = some y) (h1 : y < x) (h2 : x < lim ys (i + 1)) : x ∉ ys := by
  intro hx
  obtain ⟨j, hj⟩ := List.getElem?_of_mem hx
  rcases Nat.lt_trichotomy i j with g | g | g
  · unfold lim at h2
    rcases Nat.lt_trichotomy (i + 1) j with g' | g' | g'
    · have hl := (List.getElem?_eq_some_iff.1 hj).1
      have e : ys[i + 1]? = some (ys[i + 1]'(by omega)) := List.getElem?_eq_getElem (by omega)
      have := h (i + 1) j _ x g' e hj
      rw [e] at h2; simp at h2; omega
    · subst g'; rw [hj] at h2; simp at h2
    · omega
  · subst g; rw [hi] at hj; simp at hj; omega
  · have := h j i x y g hj hi; omega
theorem alike {done : List Sp} {ys : List Int} (h : BInv done ys) (a : List Sp) (ha : ∀ p ∈ a, p ∈ done) (i : Nat) (y : Int) (hi : ys[i]? = some y) (d : Nat) (hd : y + d < lim ys (i + 1)) : hasB a (y + d) = hasB a y := by
  induction d with
  | zero => simp
  | succ d ih =>
    have hy := h.2.2.1 y (List.mem_of_getElem? hi)
    have hl := lim_lt h.1 h.2.2.1 i y hi
    rw [← ih (by omega)]
    have := hasB_next h a ha (y + d) (by omega) (by omega) (no_border h.1 i y _ hi (by omega) (by omega))
    rw [this]
    congr 1
    omega
theorem made_alike {a b : List Sp} {ys : List Int} (how : Int) (h : BInv (a ++ b) ys) (i : Nat) (y x : Int) (hi : ys[i]? = some y) (h1 : y ≤ x) (h2 : x < lim ys (i + 1)) : madeB how a b x = madeB how a b y := by
  unfold madeB
  obtain ⟨d, rfl⟩ : ∃ d : Nat, x = y + d := ⟨(x - y).toNat, by omega⟩
  rw [alike h a (fun p hp => by simp [hp]) i y hi d h2, alike h b (fun p hp => by simp [hp]) i y hi d h2]

/-- what holds of what has been made below a border -/
def MInv (how : Int) (a b : List Sp) (ys : List Int) (i : Nat) (out : List Sp) : Prop := Plain out ∧ (∀ x, InS out x ↔ (madeB how a b x = true ∧ x < lim ys i)) ∧ out.length ≤ i
theorem made_low (how : Int) (a b : List Sp) (x : Int) (h : madeB how a b x = true) : -1073741824 ≤ x ∧ x ≤ 1073741824 := by
  have key : ∀ l : List Sp, hasB l x = true → -1073741824 ≤ x ∧ x ≤ 1073741824 := fun l hl => ⟨((hasB_iff l x).1 hl).1, ((hasB_iff l x).1 hl).2.1⟩
  unfold madeB inHow at h
  split at h
  · simp at h; exact key a h.1
  split at h
  · simp at h; exact key a h.1
  · simp at h; rcases h with h | h
    · exact key a h
    · exact key b h
theorem MInv.start (how : Int) (a b : List Sp) (ys : List Int) (h : BInv (a ++ b) ys) : MInv how a b ys 0 [] := by
  refine ⟨trivial, fun x => ?_, by simp⟩
  simp only [InS, false_iff, not_and]
  intro hx hl
  have := made_low how a b x hx
  obtain ⟨j, hj⟩ := List.getElem?_of_mem h.2.1
  have hne : lim ys 0 ≤ -1073741824 := by
    unfold lim
    cases e : ys[0]? with
    | none => have h2 := (List.getElem?_eq_some_iff.1 hj).1; rw [List.getElem?_eq_none_iff] at e; omega
    | some z =>
      simp
      rcases Nat.eq_zero_or_pos j with g | g
      · subst g; rw [hj] at e; simp at e; omega
      · have := h.1 0 j z _ g e hj; omega
  omega
theorem InS_split {ys : List Int} {how : Int} {a b : List Sp} {i : Nat} {y : Int} (h : BInv (a ++ b) ys) (hi : ys[i]? = some y) {out : List Sp} (hm : MInv how a b ys i out) (x : Int) :
    (madeB how a b x = true ∧ x < lim ys (i + 1)) ↔ (InS out x ∨ (madeB how a b y = true ∧ y ≤ x ∧ x < lim ys (i + 1))) := by
  have hl := lim_lt h.1 h.2.2.1 i y hi
  have e : lim ys i = y := by unfold lim; rw [hi]; rfl
  rw [hm.2.1 x, e]
  constructor
  · rintro ⟨h1, h2⟩
    by_cases g : x < y
    · exact .inl ⟨h1, g⟩
    · exact .inr ⟨(made_alike how h i y x hi (by omega) h2) ▸ h1, by omega, h2⟩
  · rintro (⟨h1, h2⟩ | ⟨h1, h2, h3⟩)
    · exact ⟨h1, by omega⟩
    · exact ⟨(made_alike how h i y x hi h2 h3).trans h1, h3⟩
theorem MInv.skip {ys : List Int} {how : Int} {a b : List Sp} {i : Nat} {y : Int} (h : BInv (a ++ b) ys) (hi : ys[i]? = some y) {out : List Sp} (hm : MInv how a b ys i out) (hin : madeB how a b y = false) : MInv how a b ys (i + 1) out :=
  ⟨hm.1, fun x => by rw [InS_split h hi hm x, hin]; simp, by have := hm.2.2; omega⟩
theorem InS_last {l : List Sp} {q : Sp} (x : Int) : InS (l ++ [q]) x ↔ (InS l x ∨ (q.1 ≤ x ∧ x ≤ q.2)) := by rw [InS_append]; simp [InS]
theorem MInv.merge {ys : List Int} {how : Int} {a b : List Sp} {i : Nat} {y : Int} (h : BInv (a ++ b) ys) (hi : ys[i]? = some y) {l : List Sp} {q : Sp} (hm : MInv how a b ys i (l ++ [q])) (hin : madeB how a b y = true) (hq : q.2 = y - 1) :
    MInv how a b ys (i + 1) (l ++ [(q.1, lim ys (i + 1) - 1)]) := by
  have hl := lim_lt h.1 h.2.2.1 i y hi
  obtain ⟨p1, p2, p3⟩ := hm
  obtain ⟨l1, l2, l3, l4⟩ := PlainF.last p1
  refine ⟨PlainF.snoc (PlainF.init p1) l1 l2 (by simp only; omega) (by simp only; omega), fun x => ?_, by simp at *; omega⟩
  rw [InS_split h hi ⟨p1, p2, p3⟩ x, InS_last, InS_last, hin]
  simp only [true_and]
  constructor
  · rintro (g | ⟨g1, g2⟩)
    · exact .inl (.inl g)
    · by_cases g3 : x ≤ q.2
      · exact .inl (.inr ⟨g1, g3⟩)
      · exact .inr ⟨by omega, by omega⟩
  · rintro ((g | ⟨g1, g2⟩) | ⟨g1, g2⟩)
    · exact .inl g
    · exact .inr ⟨g1, by omega⟩
    · exact .inr ⟨by omega, by omega⟩
theorem MInv.push {ys : List Int} {how : Int} {a b : List Sp} {i : Nat} {y : Int} (h : BInv (a ++ b) ys) (hi : ys[i]? = some y) {out : List Sp} (hm : MInv how a b ys i out) (hin : madeB how a b y = true) (hq : ∀ l q, out = l ++ [q] → q.2 ≠ y - 1) :
    MInv how a b ys (i + 1) (out ++ [(y, lim ys (i + 1) - 1)]) := by
  have hl := lim_lt h.1 h.2.2.1 i y hi
  have hy := h.2.2.1 y (List.mem_of_getElem? hi)
  obtain ⟨p1, p2, p3⟩ := hm
  have e : lim ys i = y := by unfold lim; rw [hi]; rfl
  have hlt : ∀ p ∈ out, p.2 + 1 < y := by
    rcases List.eq_nil_or_concat out with rfl | ⟨l, q, eo⟩
    · simp
    · rw [List.concat_eq_append] at eo
      subst eo
      obtain ⟨l1, l2, l3, l4⟩ := PlainF.last p1
      have h1 : q.2 < y := by
        have := (p2 q.2).1 ((InS_last _).2 (.inr ⟨l3, Int.le_refl _⟩))
        omega
      have h2 := hq l q rfl
      intro p hp
      rcases List.mem_append.1 hp with hp | hp
      · have := l2 p hp; omega
      · simp at hp; subst hp; omega
  refine ⟨PlainF.snoc p1 (by omega) hlt (by simp only; omega) (by simp only; omega), fun x => ?_, by simp; omega⟩
  rw [InS_split h hi ⟨p1, p2, p3⟩ x, InS_last, hin]
  simp only [true_and]
  constructor
  · rintro (g | ⟨g1, g2⟩)
    · exact .inl g
    · exact .inr ⟨g1, by omega⟩
  · rintro (g | ⟨g1, g2⟩)
    · exact .inl g
    · exact .inr ⟨g1, by omega⟩
theorem MInv.rep {ys : List Int} {how : Int} {a b : List Sp} {out : List Sp} (hm : MInv how a b ys ys.length out) : Rep out (fun x => madeB how a b x = true) := by
  refine ⟨hm.1, fun x => ?_⟩
  rw [hm.2.1 x]
  constructor
  · exact fun g => g.1
  · intro g
    refine ⟨g, ?_⟩
    have := made_low how a b x g
    unfold lim
    rw [List.getElem?_eq_none (Nat.le_refl _)]
    simp; omega
end Go.Proofs.Ytdaagdohhnhbdaa
