/- Plain facts on how umlautref03 gathers values and numbers: a row of bools that is run through, a list that grows by one number at a time. No program in sight. Condition: none. -/
import Derived.Test.YtdaagdohhnhbdaaPartLaw
namespace Go.Proofs.Ytdaagdohhnhbdaa
open Go.RowKit
set_option linter.unusedVariables false

/-- which values are there: those of the numbers of S -/
def ThB (S : Int → Prop) (D T : Int) (bs : List Bool) : Prop := (bs.length : Int) = T + 1 ∧ ∀ j : Nat, bs[j]? = some true ↔ ∃ y, S y ∧ 0 ≤ y ∧ y ≤ 2097151 ∧ y / D % T = (j : Int)
theorem ThB.congr {S S' : Int → Prop} {D T : Int} {bs : List Bool} (h : ThB S D T bs) (hS : ∀ y, 0 ≤ y → y ≤ 2097151 → (S y ↔ S' y)) : ThB S' D T bs := by
  refine ⟨h.1, fun j => (h.2 j).trans ?_⟩
  constructor
  · rintro ⟨y, g1, g2, g3, g4⟩; exact ⟨y, (hS y g2 g3).1 g1, g2, g3, g4⟩
  · rintro ⟨y, g1, g2, g3, g4⟩; exact ⟨y, (hS y g2 g3).2 g1, g2, g3, g4⟩
theorem ThB.start {S : Int → Prop} {D T : Int} (hT : 1 ≤ T) (hS : ∀ y, 0 ≤ y → y ≤ 2097151 → ¬ S y) {n : Nat} (hn : (n : Int) = T + 1) : ThB S D T (List.replicate n false) := by
  refine ⟨by simpa using hn, fun j => ?_⟩
  constructor
  · intro h
    rw [List.getElem?_replicate] at h
    split at h <;> simp at h
  · rintro ⟨y, g1, g2, g3, g4⟩; exact (hS y g2 g3 g1).elim
theorem ThB.set {S : Int → Prop} {D T x : Int} {bs : List Bool} {j : Nat} (h : ThB S D T bs) (hT : 1 ≤ T) (h0 : 0 ≤ x) (h1 : x ≤ 2097151) (hj : x / D % T = (j : Int)) : ThB (fun y => S y ∨ y = x) D T (bs.set j true) := by
  refine ⟨by simpa using h.1, fun i => ?_⟩
  have hlt : x / D % T < T := Int.emod_lt_of_pos _ (by omega)
  rw [List.getElem?_set]
  by_cases e : j = i
  · subst e
    rw [if_pos rfl, if_pos (by have := h.1; omega)]
    constructor
    · intro _; exact ⟨x, .inr rfl, h0, h1, hj⟩
    · intro _; rfl
  · rw [if_neg e, h.2]
    constructor
    · rintro ⟨y, g1, g2⟩; exact ⟨y, .inl g1, g2⟩
    · rintro ⟨y, g1 | rfl, g2, g3, g4⟩
      · exact ⟨y, g1, g2, g3, g4⟩
      · omega
theorem ThB.last {S : Int → Prop} {D T : Int} {bs : List Bool} (h : ThB S D T bs) (hT : 1 ≤ T) {j : Nat} (hj : (j : Int) = T) : bs[j]? = some false := by
  have hl : bs[j]? = some (bs[j]'(by have := h.1; omega)) := List.getElem?_eq_getElem _
  cases hb : bs[j]'(by have := h.1; omega)
  · rw [hl, hb]
  · rw [hb] at hl
    obtain ⟨y, _, _, _, g⟩ := (h.2 j).1 hl
    have := Int.emod_lt_of_pos (y / D) (b := T) (by omega)
    omega
/-- of the k-th span of a list the numbers ahead of x -/
def Upto (l : List Sp) (k : Nat) (lo hi x : Int) (y : Int) : Prop := InS (l.take k) y ∨ (lo ≤ y ∧ y ≤ hi ∧ y < x)
theorem upto_start (l : List Sp) (k : Nat) (lo hi : Int) {y : Int} (h0 : 0 ≤ y) : InS (l.take k) y ↔ Upto l k lo hi (max lo 0) y := by
  unfold Upto; constructor
  · exact .inl
  · rintro (h | h)
    · exact h
    · omega
theorem upto_step {l : List Sp} {k : Nat} {lo hi x : Int} (h1 : lo ≤ x) (h2 : x ≤ hi) (y : Int) : (Upto l k lo hi x y ∨ y = x) ↔ Upto l k lo hi (x + 1) y := by
  unfold Upto; constructor
  · rintro ((h | h) | h)
    · exact .inl h
    · exact .inr (by omega)
    · exact .inr (by omega)
  · rintro (h | h)
    · exact .inl (.inl h)
    · by_cases e : y = x
      · exact .inr e
      · exact .inl (.inr (by omega))
theorem upto_done {l : List Sp} {k : Nat} {lo hi x : Int} (h : l[k]? = some (lo, hi)) (hx : hi < x ∨ 2097152 ≤ x) {y : Int} (h1 : y ≤ 2097151) : Upto l k lo hi x y ↔ InS (l.take (k + 1)) y := by
  rw [InS_take_succ h]; unfold Upto
  constructor
  · rintro (g | g)
    · exact .inl g
    · exact .inr ⟨g.1, g.2.1⟩
  · rintro (g | g)
    · exact .inl g
    · exact .inr ⟨g.1, g.2, by omega⟩

/-- the row of bools run through up to v: what is told, and where an open span began -/
def RI (up : Int) (bs : List Bool) (v : Nat) (f : Int) (o : List Sp) : Prop :=
  o.length ≤ v ∧ PlainF (-2) o ∧
  ((up = 1 ∧ f = -1 ∧ (∀ y, InS o y ↔ 0 ≤ y ∧ y < v ∧ bs[y.toNat]? = some true) ∧ ∀ p ∈ o, p.2 + 1 < v) ∨
   (up = 1 ∧ 0 ≤ f ∧ f < v ∧ (∀ y, f ≤ y → y < v → bs[y.toNat]? = some true) ∧ (∀ y, InS o y ↔ 0 ≤ y ∧ y < f ∧ bs[y.toNat]? = some true) ∧ ∀ p ∈ o, p.2 + 1 < f) ∨
   (1 < up ∧ f = -1 ∧ (∀ y, InS o y ↔ ∃ z : Nat, z < v ∧ bs[z]? = some true ∧ z * up = y) ∧ ∀ p ∈ o, p.2 ≤ ((v : Int) - 1) * up))
theorem RI.start {up : Int} (hu : 1 ≤ up) (bs : List Bool) : RI up bs 0 (-1) [] := by
  refine ⟨by simp, trivial, ?_⟩
  by_cases h : up = 1
  · exact .inl ⟨h, rfl, fun y => by simp [InS]; omega, by simp⟩
  · exact .inr (.inr ⟨by omega, rfl, fun y => by simp [InS], by simp⟩)
theorem RI.shape {up : Int} {bs : List Bool} {v : Nat} {f : Int} {o : List Sp} (h : RI up bs v f o) : (up = 1 ∧ f = -1) ∨ (up = 1 ∧ 0 ≤ f ∧ f < v) ∨ (1 < up ∧ f = -1) := by
  rcases h.2.2 with h | h | h
  · exact .inl ⟨h.1, h.2.1⟩
  · exact .inr (.inl ⟨h.1, h.2.1, h.2.2.1⟩)
  · exact .inr (.inr ⟨h.1, h.2.1⟩)
theorem RI.openA {bs : List Bool} {v : Nat} {o : List Sp} (h : RI 1 bs v (-1) o) (hv : bs[v]? = some true) : RI 1 bs (v + 1) v o := by
  obtain ⟨h1, h2, h3⟩ := h
  rcases h3 with ⟨_, _, g1, g2⟩ | ⟨_, g, _⟩ | ⟨g, _⟩
  · refine ⟨by omega, h2, .inr (.inl ⟨rfl, by omega, by omega, fun y q1 q2 => ?_, g1, g2⟩)⟩
    obtain rfl : y = (v : Int) := by omega
    simpa using hv
  · omega
  · omega
theorem RI.stayA {up : Int} {bs : List Bool} {v : Nat} {o : List Sp} (hu : 1 ≤ up) (h : RI up bs v (-1) o) (hv : bs[v]? = some false) : RI up bs (v + 1) (-1) o := by
  obtain ⟨h1, h2, h3⟩ := h
  rcases h3 with ⟨e, _, g1, g2⟩ | ⟨_, g, _⟩ | ⟨g, _, g1, g2⟩
  · refine ⟨by omega, h2, .inl ⟨e, rfl, fun y => ?_, fun p hp => by have := g2 p hp; omega⟩⟩
    rw [g1]
    constructor
    · rintro ⟨q1, q2, q3⟩; exact ⟨q1, by omega, q3⟩
    · rintro ⟨q1, q2, q3⟩
      refine ⟨q1, ?_, q3⟩
      by_cases e : y = (v : Int)
      · subst e; simp [hv] at q3
      · omega
  · omega
  · refine ⟨by omega, h2, .inr (.inr ⟨g, rfl, fun y => ?_, fun p hp => ?_⟩)⟩
    · rw [g1]
      constructor
      · rintro ⟨z, q1, q2⟩; exact ⟨z, by omega, q2⟩
      · rintro ⟨z, q1, q2, q3⟩
        refine ⟨z, ?_, q2, q3⟩
        by_cases e : z = v
        · subst e; rw [hv] at q2; simp at q2
        · omega
    · have q := g2 p hp
      have := Int.mul_le_mul_of_nonneg_right (show (v : Int) - 1 ≤ ((v + 1 : Nat) : Int) - 1 by omega) (show 0 ≤ up by omega)
      omega
theorem RI.stayO {bs : List Bool} {v : Nat} {f : Int} {o : List Sp} (h : RI 1 bs v f o) (hf : 0 ≤ f) (hv : bs[v]? = some true) : RI 1 bs (v + 1) f o := by
  obtain ⟨h1, h2, h3⟩ := h
  rcases h3 with ⟨_, g, _⟩ | ⟨_, _, g0, g1, g2, g3⟩ | ⟨g, _⟩
  · omega
  · refine ⟨by omega, h2, .inr (.inl ⟨rfl, hf, by omega, fun y q1 q2 => ?_, g2, g3⟩)⟩
    by_cases e : y = (v : Int)
    · subst e; simpa using hv
    · exact g1 y q1 (by omega)
  · omega
theorem RI.shut {bs : List Bool} {v : Nat} {f : Int} {o : List Sp} (h : RI 1 bs v f o) (hf : 0 ≤ f) (hv : bs[v]? = some false) (hb : v ≤ 1073741824) : RI 1 bs (v + 1) (-1) (o ++ [(f, (v : Int) - 1)]) := by
  obtain ⟨h1, h2, h3⟩ := h
  rcases h3 with ⟨_, g, _⟩ | ⟨_, _, g0, g1, g2, g3⟩ | ⟨g, _⟩
  · omega
  · refine ⟨by simp; omega, h2.snoc (by simp only; omega) (fun p hp => g3 p hp) (by simp only; omega) (by simp only; omega), .inl ⟨rfl, rfl, fun y => ?_, fun p hp => ?_⟩⟩
    · rw [InS_append, InS_one, g2]
      constructor
      · rintro (q | q)
        · exact ⟨q.1, by omega, q.2.2⟩
        · exact ⟨by omega, by omega, g1 y q.1 (by omega)⟩
      · rintro ⟨q1, q2, q3⟩
        by_cases e : y = (v : Int)
        · subst e; simp [hv] at q3
        · by_cases e2 : y < f
          · exact .inl ⟨q1, e2, q3⟩
          · exact .inr (by omega)
    · rcases List.mem_append.1 hp with q | q
      · have := g3 p q; omega
      · simp at q; subst q; simp only; omega
  · omega
theorem RI.one {up : Int} {bs : List Bool} {v : Nat} {o : List Sp} (hu : 1 < up) (h : RI up bs v (-1) o) (hv : bs[v]? = some true) {q : Int} (hq : (v : Int) * up = q) (hb : q ≤ 1073741824) : RI up bs (v + 1) (-1) (o ++ [(q, q)]) := by
  obtain ⟨h1, h2, h3⟩ := h
  have hq0 : 0 ≤ q := by rw [← hq]; exact Int.mul_nonneg (by omega) (by omega)
  rcases h3 with ⟨g, _⟩ | ⟨g, _⟩ | ⟨_, _, g1, g2⟩
  · omega
  · omega
  · have e : ((v : Int) - 1) * up = q - up := by rw [Int.sub_mul, hq, Int.one_mul]
    rw [e] at g2
    refine ⟨by simp; omega, h2.snoc (by simp only; omega) (fun p hp => by have := g2 p hp; simp only; omega) (by simp) hb, .inr (.inr ⟨hu, rfl, fun y => ?_, fun p hp => ?_⟩)⟩
    · rw [InS_append, InS_one, g1]
      constructor
      · rintro (⟨z, q1, q2⟩ | g)
        · exact ⟨z, by omega, q2⟩
        · exact ⟨v, by omega, hv, by omega⟩
      · rintro ⟨z, q1, q2, q3⟩
        by_cases e : z = v
        · subst e; exact .inr (by omega)
        · exact .inl ⟨z, by omega, q2, q3⟩
    · have e2 : (((v + 1 : Nat) : Int) - 1) * up = q := by rw [show (((v + 1 : Nat) : Int) - 1) = (v : Int) by omega, hq]
      rw [e2]
      rcases List.mem_append.1 hp with g | g
      · have := g2 p g; omega
      · simp at g; subst g; simp
theorem RI.rep {d t u : Int} {a l o : List Sp} {bs : List Bool} {v : Nat} {f : Int} (hb : bitsB d t u = true) (hl : Rep l (Mem a)) (hT : ThB (InS l) (pw d) (pw t) bs) (hv : (v : Int) = pw t + 1) (h : RI (pw u) bs v f o) : Rep o (ImgS d t u a) := by
  obtain ⟨h1, h2, h3⟩ := h
  have hp := pw_pos t
  have key : ∀ y, ImgS d t u a y ↔ ∃ z : Nat, bs[z]? = some true ∧ z * pw u = y := by
    intro y
    unfold ImgS pval
    constructor
    · rintro ⟨_, x, g1, g2, g3, rfl⟩
      have m0 := Int.emod_nonneg (x / pw d) (b := pw t) (by omega)
      refine ⟨(x / pw d % pw t).toNat, (hT.2 _).2 ⟨x, (hl.2 x).2 g1, g2, g3, by omega⟩, by rw [Int.toNat_of_nonneg m0]⟩
    · rintro ⟨z, g, rfl⟩
      obtain ⟨x, g1, g2, g3, g4⟩ := (hT.2 z).1 g
      exact ⟨hb, x, (hl.2 x).1 g1, g2, g3, by rw [g4]⟩
  refine ⟨h2.mono (by omega), fun y => ?_⟩
  rw [key]
  have hlt : ∀ z : Nat, bs[z]? = some true → z < v := fun z hz => by
    have := (List.getElem?_eq_some_iff.1 hz).1
    have := hT.1
    omega
  rcases h3 with ⟨e, _, g1, _⟩ | ⟨e, g0, g00, g1, g2, _⟩ | ⟨e, _, g1, _⟩
  · rw [g1, e]
    constructor
    · rintro ⟨q1, q2, q3⟩; exact ⟨y.toNat, q3, by omega⟩
    · rintro ⟨z, q1, rfl⟩
      exact ⟨by omega, by have := hlt z q1; omega, by simpa using q1⟩
  · have := g1 ((v : Int) - 1) (by omega) (by omega)
    have g := hT.last (by omega) (j := ((v : Int) - 1).toNat) (by omega)
    rw [g] at this; simp at this
  · rw [g1]
    constructor
    · rintro ⟨z, q1, q2, q3⟩; exact ⟨z, q2, q3⟩
    · rintro ⟨z, q2, q3⟩; exact ⟨z, hlt z q2, q2, q3⟩

/-- numbers gathered one by one: those of S among the first, all ahead of x -/
def RP (S : Int → Prop) (x : Int) (o : List Sp) : Prop := PlainF (-2) o ∧ (∀ y, InS o y ↔ S y) ∧ (∀ p ∈ o, p.2 < x) ∧ (o.length : Int) ≤ x
theorem RP.congr {S S' : Int → Prop} {x x' : Int} {o : List Sp} (h : RP S x o) (hS : ∀ y, S y ↔ S' y) (hx : x ≤ x') : RP S' x' o :=
  ⟨h.1, fun y => (h.2.1 y).trans (hS y), fun p hp => by have := h.2.2.1 p hp; omega, by have := h.2.2.2; omega⟩
theorem RP.push {S : Int → Prop} {x : Int} {o : List Sp} (h : RP S x o) (h0 : 0 ≤ x) (hb : x ≤ 1073741824) (hl : ∀ m q, o = m ++ [q] → q.2 ≠ x - 1) : RP (fun y => S y ∨ y = x) (x + 1) (o ++ [(x, x)]) := by
  obtain ⟨h1, h2, h3, h4⟩ := h
  refine ⟨h1.snoc (by simp only; omega) (fun p hp => ?_) (by simp) hb, fun y => ?_, fun p hp => ?_, by simp; omega⟩
  · simp only
    rcases last_cases o with rfl | ⟨m, q, rfl⟩
    · cases hp
    · have g := hl m q rfl
      have g2 := h3 q (by simp)
      rcases List.mem_append.1 hp with hp | hp
      · have g3 := (PlainF.last h1).2.1 p hp
        have g4 := (PlainF.last h1).2.2.1
        omega
      · simp at hp; subst hp; omega
  · rw [InS_append, InS_one, h2]
    constructor
    · rintro (g | g)
      · exact .inl g
      · exact .inr (by omega)
    · rintro (g | g)
      · exact .inl g
      · exact .inr (by omega)
  · rcases List.mem_append.1 hp with g | g
    · have := h3 p g; omega
    · simp at g; subst g; simp only; omega
theorem RP.merge {S : Int → Prop} {x q1 : Int} {m : List Sp} (h : RP S x (m ++ [(q1, x - 1)])) (hb : x ≤ 1073741824) : RP (fun y => S y ∨ y = x) (x + 1) (m ++ [(q1, x)]) := by
  obtain ⟨h1, h2, h3, h4⟩ := h
  obtain ⟨g1, g2, g3, g4⟩ := PlainF.last h1
  simp only at g1 g2 g3 g4
  refine ⟨(PlainF.init h1).snoc g1 g2 (by simp only; omega) hb, fun y => ?_, fun p hp => ?_, by simp at h4 ⊢; omega⟩
  · show _ ↔ (S y ∨ y = x)
    rw [← h2, InS_append, InS_append, InS_one, InS_one, or_assoc]
    constructor
    · rintro (g | g)
      · exact .inl g
      · by_cases e : y = x
        · exact .inr (.inr e)
        · exact .inr (.inl (by omega))
    · rintro (g | g | g)
      · exact .inl g
      · exact .inr (by omega)
      · exact .inr (by omega)
  · rcases List.mem_append.1 hp with g | g
    · have := h3 p (by simp [g]); omega
    · simp at g; subst g; simp only; omega
/-- the numbers of a list whose values are wanted -/
def Wt (D T up : Int) (h : List Sp) (S : Int → Prop) (y : Int) : Prop := S y ∧ 0 ≤ y ∧ y ≤ 2097151 ∧ Mem h (y / D % T * up)
theorem Wt.congr {D T up : Int} {h : List Sp} {S S' : Int → Prop} (hS : ∀ y, 0 ≤ y → y ≤ 2097151 → (S y ↔ S' y)) (y : Int) : Wt D T up h S y ↔ Wt D T up h S' y := by
  unfold Wt
  constructor
  · rintro ⟨g1, g2, g3, g4⟩; exact ⟨(hS y g2 g3).1 g1, g2, g3, g4⟩
  · rintro ⟨g1, g2, g3, g4⟩; exact ⟨(hS y g2 g3).2 g1, g2, g3, g4⟩
theorem Wt.yes {D T up x : Int} {h : List Sp} {S : Int → Prop} (h0 : 0 ≤ x) (h1 : x ≤ 2097151) (hx : Mem h (x / D % T * up)) (y : Int) : (Wt D T up h S y ∨ y = x) ↔ Wt D T up h (fun y => S y ∨ y = x) y := by
  unfold Wt
  constructor
  · rintro (⟨g1, g2⟩ | rfl)
    · exact ⟨.inl g1, g2⟩
    · exact ⟨.inr rfl, h0, h1, hx⟩
  · rintro ⟨g1 | rfl, g2⟩
    · exact .inl ⟨g1, g2⟩
    · exact .inr rfl
theorem Wt.no {D T up x : Int} {h : List Sp} {S : Int → Prop} (hx : ¬ Mem h (x / D % T * up)) (y : Int) : Wt D T up h S y ↔ Wt D T up h (fun y => S y ∨ y = x) y := by
  unfold Wt
  constructor
  · rintro ⟨g1, g2⟩; exact ⟨.inl g1, g2⟩
  · rintro ⟨g1 | rfl, g2⟩
    · exact ⟨g1, g2⟩
    · exact (hx g2.2.2).elim
theorem PlainF.drop_low3 {a : Int} {l : List Sp} (h : PlainF a l) {k : Nat} {p q : Sp} (hp : l[k]? = some p) (hq : q ∈ l.drop (k + 1)) : p.2 + 2 ≤ q.1 := by
  induction l generalizing a k with
  | nil => simp at hp
  | cons r l ih =>
    obtain ⟨h1, h2, h3, h4⟩ := h
    cases k with
    | zero =>
      simp at hp; subst hp
      have hm : q ∈ l := by simpa using hq
      have := PlainF.mem h4 hm
      have := h4.low (InS_of_mem hm (Int.le_refl _) (by omega))
      omega
    | succ k => exact ih h4 (by simpa using hp) (by simpa using hq)
/-- .. of the spans ahead of the k-th -/
def RP1 (D T up : Int) (h l : List Sp) (k : Nat) (o : List Sp) : Prop := ∃ L : Int, 0 ≤ L ∧ L ≤ 2097152 ∧ (∀ q ∈ l.drop k, L ≤ max q.1 0) ∧ RP (Wt D T up h (InS (l.take k))) L o
def RP2 (D T up : Int) (h l : List Sp) (k : Nat) (lo hi x : Int) (o : List Sp) : Prop := 0 ≤ x ∧ x ≤ max (hi + 1) 0 ∧ lo ≤ x ∧ ∃ L : Int, 0 ≤ L ∧ L ≤ 2097152 ∧ L ≤ x ∧ RP (Wt D T up h (Upto l k lo hi x)) L o
theorem RP1.start {D T up : Int} {h l : List Sp} : RP1 D T up h l 0 [] := ⟨0, by omega, by omega, fun q _ => by omega, trivial, fun y => by simp [InS, Wt], by simp, by simp⟩
theorem RP1.go {D T up : Int} {h l o : List Sp} {k : Nat} {lo hi : Int} (g : RP1 D T up h l k o) (hp : l[k]? = some (lo, hi)) (h12 : lo ≤ hi) : RP2 D T up h l k lo hi (max lo 0) o := by
  obtain ⟨L, h0, h1, h2, h3⟩ := g
  have := h2 (lo, hi) (by rw [drop_cons? hp]; simp)
  simp only at this
  exact ⟨by omega, by omega, by omega, L, h0, h1, this, h3.congr (Wt.congr fun y g0 _ => upto_start l k lo hi g0) (Int.le_refl _)⟩
theorem RP2.done {D T up a : Int} {h l o : List Sp} {k : Nat} {lo hi x : Int} (hl : PlainF a l) (g : RP2 D T up h l k lo hi x o) (hp : l[k]? = some (lo, hi)) (hx : hi < x ∨ 2097152 ≤ x) : RP1 D T up h l (k + 1) o := by
  obtain ⟨g0, g2, g3, L, l0, l1, l2, g4⟩ := g
  refine ⟨L, l0, l1, fun q hq => ?_, g4.congr (Wt.congr fun y _ q1 => upto_done hp hx q1) (Int.le_refl _)⟩
  have := (PlainF.drop_low3 hl hp hq)
  simp only at this
  omega
theorem RP2.skip {D T up : Int} {h l o : List Sp} {k : Nat} {lo hi x : Int} (g : RP2 D T up h l k lo hi x o) (h1 : x ≤ hi) (h2 : x < 2097152) (hx : ¬ Mem h (x / D % T * up)) : RP2 D T up h l k lo hi (x + 1) o := by
  obtain ⟨g0, g2, g3, L, l0, l1, l2, g4⟩ := g
  refine ⟨by omega, by omega, by omega, L, l0, l1, by omega, g4.congr (fun y => ?_) (Int.le_refl _)⟩
  rw [Wt.no hx]
  exact Wt.congr (fun y _ _ => upto_step g3 h1 y) y
theorem RP2.now {D T up : Int} {h l o : List Sp} {k : Nat} {lo hi x : Int} (g : RP2 D T up h l k lo hi x o) : RP (Wt D T up h (Upto l k lo hi x)) x o := by
  obtain ⟨g0, g2, g3, L, l0, l1, l2, g4⟩ := g
  exact g4.congr (fun _ => Iff.rfl) l2
theorem RP2.took {D T up : Int} {h l o o' : List Sp} {k : Nat} {lo hi x : Int} (g : RP2 D T up h l k lo hi x o) (h1 : x ≤ hi) (h2 : x < 2097152) (hx : Mem h (x / D % T * up))
    (hr : RP (fun y => Wt D T up h (Upto l k lo hi x) y ∨ y = x) (x + 1) o') : RP2 D T up h l k lo hi (x + 1) o' := by
  obtain ⟨g0, g2, g3, _⟩ := g
  refine ⟨by omega, by omega, by omega, x + 1, by omega, by omega, by omega, hr.congr (fun y => ?_) (by omega)⟩
  rw [Wt.yes g0 (by omega) hx]
  exact Wt.congr (fun y _ _ => upto_step g3 h1 y) y
theorem RP1.rep {d t u : Int} {a g l h o : List Sp} (hb : bitsB d t u = true) (hl : Rep l (Mem a)) (hh : Rep h (Mem g)) (hr : RP1 (pw d) (pw t) (pw u) h l l.length o) : Rep o (PreS d t u a g) := by
  obtain ⟨L, _, _, _, h1, h2, _⟩ := hr
  refine ⟨h1.mono (by omega), fun y => ?_⟩
  rw [h2, List.take_length]
  unfold Wt PreS pval
  rw [hl.2, hh.mem]
  simp only [hb, true_and]
theorem RP1.len {D T up : Int} {h l o : List Sp} {k : Nat} (hr : RP1 D T up h l k o) : o.length ≤ 2097152 := by obtain ⟨L, g0, g1, _, _, _, _, g⟩ := hr; omega
theorem RP2.len {D T up : Int} {h l o : List Sp} {k : Nat} {lo hi x : Int} (g : RP2 D T up h l k lo hi x o) : o.length ≤ 2097152 := by obtain ⟨g0, g2, g3, L, l0, l1, l2, _, _, _, g4⟩ := g; omega
end Go.Proofs.Ytdaagdohhnhbdaa
