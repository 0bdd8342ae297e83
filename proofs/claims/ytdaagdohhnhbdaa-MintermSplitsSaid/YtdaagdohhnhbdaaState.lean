/- The state of a walk: what is known of the slices at hand stays known; every set of numbers has a plain list; a set's number at a place. No function of the program in sight. Condition: none. -/
import Derived.Test.YtdaagdohhnhbdaaMeetLaw
import Derived.Test.YtdaagdohhnhbdaaSt
namespace Go.Proofs.Ytdaagdohhnhbdaa
open Go.RowKit
set_option linter.unusedVariables false

/-- a slice of spans that is known: its numbers are ints, it is not too long -/
structure Lst (A : Option Addr) (l : List Sp) (W : World) : Prop where
  sp : Spans W A l.length l
  wd : SpW l
  len : l.length < 137438953472
theorem Lst.below {A : Option Addr} {l : List Sp} {w w' : World} (h : Lst A l w) (hb : Below w.heap.size w w') : Lst A l w' := ⟨h.sp.below hb, h.wd, h.len⟩

theorem PlainF.spw {a : Int} {l : List Sp} (h : PlainF a l) (ha : -1073741826 ≤ a) : ∀ p ∈ l, -1073741824 ≤ p.1 ∧ p.1 ≤ p.2 ∧ p.2 ≤ 1073741824 := by
  induction l generalizing a with
  | nil => intro p hp; cases hp
  | cons q l ih =>
    obtain ⟨h1, h2, h3, h4⟩ := h
    intro p hp
    rcases List.mem_cons.1 hp with rfl | hp
    · omega
    · exact ih h4 (by omega) p hp
theorem Plain.spw {l : List Sp} (h : Plain l) : SpW l := fun p hp => by have := PlainF.spw h (Int.le_refl _) p hp; omega
theorem PlainF.len_le {a : Int} {l : List Sp} (h : PlainF a l) (ha : a ≤ 1073741824) : 2 * (l.length : Int) ≤ 1073741824 - a := by
  induction l generalizing a with
  | nil => simp; omega
  | cons q l ih =>
    obtain ⟨h1, h2, h3, h4⟩ := h
    have := ih h4 h3
    simp; omega
theorem Plain.len_le {l : List Sp} (h : Plain l) : l.length ≤ 1073741825 := by have := PlainF.len_le h (by omega); omega
theorem Plain.lst {l : List Sp} (h : Plain l) {A : Option Addr} {w : World} (hs : Spans w A l.length l) : ∀ W, Below w.heap.size w W → Lst A l W :=
  fun W hW => ⟨hs.below hW, h.spw, by have := h.len_le; omega⟩

theorem last_cases (l : List Sp) : l = [] ∨ ∃ m q, l = m ++ [q] := by
  rcases List.eq_nil_or_concat l with h | ⟨m, q, h⟩
  · exact .inl h
  · exact .inr ⟨m, q, by simpa using h⟩
/-- every set of numbers has a plain list -/
theorem rep_upto (S : Int → Prop) (N : Nat) (hN : N ≤ 2147483649) : ∃ r, Rep r (fun x => S x ∧ -1073741824 ≤ x ∧ x < -1073741824 + (N : Int)) := by
  induction N with
  | zero => exact ⟨[], trivial, fun x => by simp only [InS, false_iff]; omega⟩
  | succ N ih =>
    obtain ⟨r, hp, hr⟩ := ih (by omega)
    by_cases hy : S (-1073741824 + (N : Int))
    · rcases last_cases r with rfl | ⟨m, q, rfl⟩
      · refine ⟨[(-1073741824 + (N : Int), -1073741824 + (N : Int))], ⟨by simp only; omega, by simp, by simp only; omega, trivial⟩, fun x => ?_⟩
        have := hr x
        simp only [InS, or_false, false_iff] at this ⊢
        constructor
        · intro h
          obtain rfl : x = -1073741824 + (N : Int) := by omega
          exact ⟨hy, by omega, by omega⟩
        · rintro ⟨h1, h2, h3⟩
          by_cases e : x = -1073741824 + (N : Int)
          · omega
          · exact absurd ⟨h1, h2, by omega⟩ this
      · have hl := PlainF.last hp
        have hq : InS (m ++ [q]) q.2 := (InS_append _ _ _).2 (.inr (.inl ⟨by omega, by omega⟩))
        have hql := ((hr _).1 hq).2
        by_cases hj : q.2 + 1 = -1073741824 + (N : Int)
        · refine ⟨m ++ [(q.1, -1073741824 + (N : Int))], PlainF.snoc (PlainF.init hp) hl.1 hl.2.1 (by simp only; omega) (by simp only; omega), fun x => ?_⟩
          have hx := hr x
          rw [InS_append] at hx ⊢
          simp only [InS, or_false] at hx ⊢
          constructor
          · rintro (h | h)
            · have := hx.1 (.inl h); exact ⟨this.1, by omega, by omega⟩
            · by_cases e : x = -1073741824 + (N : Int)
              · subst e; exact ⟨hy, by omega, by omega⟩
              · have := hx.1 (.inr ⟨by omega, by omega⟩); exact ⟨this.1, by omega, by omega⟩
          · rintro ⟨h1, h2, h3⟩
            by_cases e : x = -1073741824 + (N : Int)
            · exact .inr ⟨by omega, by omega⟩
            · rcases hx.2 ⟨h1, h2, by omega⟩ with h | h
              · exact .inl h
              · exact .inr ⟨by omega, by omega⟩
        · refine ⟨(m ++ [q]) ++ [(-1073741824 + (N : Int), -1073741824 + (N : Int))], PlainF.snoc hp (by simp only; have := hp.low hq; omega) (fun p hp' => ?_) (by simp) (by simp only; omega), fun x => ?_⟩
          · simp only
            rcases List.mem_append.1 hp' with h | h
            · have := hl.2.1 p h; omega
            · simp at h; subst h; omega
          · have hx := hr x
            rw [InS_append (m ++ [q]), hx]
            simp only [InS, or_false]
            constructor
            · rintro (h | h)
              · exact ⟨h.1, by omega, by omega⟩
              · obtain rfl : x = -1073741824 + (N : Int) := by omega
                exact ⟨hy, by omega, by omega⟩
            · rintro ⟨h1, h2, h3⟩
              by_cases e : x = -1073741824 + (N : Int)
              · exact .inr ⟨by omega, by omega⟩
              · exact .inl ⟨h1, h2, by omega⟩
    · refine ⟨r, hp, fun x => ?_⟩
      rw [hr x]
      constructor
      · rintro ⟨h1, h2, h3⟩; exact ⟨h1, h2, by omega⟩
      · rintro ⟨h1, h2, h3⟩
        refine ⟨h1, h2, ?_⟩
        by_cases e : x = -1073741824 + (N : Int)
        · subst e; exact absurd h1 hy
        · omega
theorem rep_all (S : Int → Prop) (hS : ∀ x, S x → -1073741824 ≤ x ∧ x ≤ 1073741824) : ∃ r, Rep r S := by
  obtain ⟨r, hr⟩ := rep_upto S 2147483649 (by omega)
  exact ⟨r, hr.congr fun x => ⟨fun h => h.1, fun h => ⟨h, by have := hS x h; omega, by have := hS x h; omega⟩⟩⟩
theorem Mem.bound {l : List Sp} {x : Int} (h : Mem l x) : -1073741824 ≤ x ∧ x ≤ 1073741824 := ⟨h.1, h.2.1⟩
theorem rep_norm (a : List Sp) : ∃ r, Hid (Rep r (Mem a)) := rep_all _ fun _ h => Mem.bound h
theorem rep_union (a b : List Sp) : ∃ r, Hid (Rep r (fun x => Mem a x ∨ Mem b x)) := rep_all _ fun _ h => h.elim Mem.bound Mem.bound
theorem rep_meet (a b : List Sp) : ∃ r, Hid (Rep r (fun x => Mem a x ∧ Mem b x)) := rep_all _ fun _ h => Mem.bound h.1
theorem rep_minus (a b : List Sp) : ∃ r, Hid (Rep r (fun x => Mem a x ∧ ¬ Mem b x)) := rep_all _ fun _ h => Mem.bound h.1
theorem rep_move (a : List Sp) (d : Int) : ∃ r, Hid (Rep r (fun x => -1073741824 ≤ x ∧ x ≤ 1073741824 ∧ Mem a (x - d))) := rep_all _ fun _ h => ⟨h.1, h.2.1⟩
/-- a plain list's own numbers -/
theorem Rep.mem {r : List Sp} {S : Int → Prop} (h : Rep r S) (x : Int) : Mem r x ↔ S x := (h.1.mem x).trans (h.2 x)

theorem NInv.ex {l : List Sp} (hs : Srt l) (i : Nat) (hi : i ≤ l.length) : ∃ o, NInv l i o := by
  induction i with
  | zero => exact ⟨[], NInv.start l⟩
  | succ i ih =>
    obtain ⟨o, ho⟩ := ih (by omega)
    have hx : l[i]? = some l[i] := List.getElem?_eq_getElem (by omega)
    rcases last_cases o with rfl | ⟨m, q, rfl⟩
    · exact ⟨_, ho.push hs hx fun m q e => by simp at e⟩
    · by_cases hj : l[i].1 ≤ q.2 + 1
      · exact ⟨_, ho.merge hs hx hj⟩
      · refine ⟨_, ho.push hs hx fun m' q' e => ?_⟩
        have := List.append_inj_right' e rfl
        simp at this
        rw [← this]; omega
/-- a plain list is no longer than any list of its set -/
theorem Rep.len_le {l r : List Sp} (hr : Rep r (Mem l)) : r.length ≤ l.length := by
  have hp := List.mergeSort_perm (clips l) (fun p q => decide (p.1 ≤ q.1))
  have hw := List.pairwise_mergeSort (le := fun p q : Sp => decide (p.1 ≤ q.1)) (fun a b c h1 h2 => by simp at *; omega) (fun a b => by simp; omega) (clips l)
  have hs : Srt ((clips l).mergeSort (fun p q => decide (p.1 ≤ q.1))) := ⟨hw.imp (fun h => by simpa using h), fun p h => clips_mem (hp.mem_iff.1 h)⟩
  obtain ⟨o, ho⟩ := NInv.ex hs _ (Nat.le_refl _)
  obtain rfl := Rep.unique (ho.rep hp) hr (fun _ => Iff.rfl)
  have := ho.len
  rw [hp.length_eq] at this
  exact Nat.le_trans this (clips_length l)

/-- the number at a place -/
def nthS : List Sp → Int → Option Int
  | [], _ => none
  | p :: l, i => if i < p.2 - p.1 + 1 then some (p.1 + i) else nthS l (i - (p.2 - p.1 + 1))
def nthI (l : List Sp) (i : Int) : Option Int := if i < 0 then none else nthS l i
def optV (o : Option Int) : Value := .tuple #[.int .i64 (o.getD 0), .bool o.isSome]
theorem PlainF.cnt_pos {a : Int} {l : List Sp} (h : PlainF a l) : l = [] ∨ 0 < cnt l := by
  cases l with
  | nil => exact .inl rfl
  | cons p l =>
    obtain ⟨h1, h2, h3, h4⟩ := h
    have := h4.cnt_le h3
    right; rw [cnt_cons]; omega
theorem nthS_first {a : Int} {p : Sp} {l : List Sp} (h : PlainF a (p :: l)) : nthS (p :: l) 0 = some p.1 := by
  obtain ⟨h1, h2, _⟩ := h
  simp only [nthS]; rw [if_pos (by omega)]; simp
theorem nthS_last {a : Int} {q : Sp} {l : List Sp} (h : PlainF a (l ++ [q])) : nthS (l ++ [q]) (cnt (l ++ [q]) - 1) = some q.2 := by
  induction l generalizing a with
  | nil =>
    obtain ⟨h1, h2, _⟩ := h
    simp only [List.nil_append, cnt_cons, cnt_nil, nthS]; rw [if_pos (by omega)]; congr 1; omega
  | cons p l ih =>
    obtain ⟨h1, h2, h3, h4⟩ := h
    have hp : 0 < cnt (l ++ [q]) := by
      rcases h4.cnt_pos with e | e
      · simp at e
      · exact e
    have := ih h4
    rw [List.cons_append, cnt_cons]
    simp only [nthS]
    rw [if_neg (by omega)]
    rw [← this]; congr 1; omega
theorem nthS_none {a : Int} {l : List Sp} (h : PlainF a l) {i : Int} (hi : cnt l ≤ i) : nthS l i = none := by
  induction l generalizing a i with
  | nil => rfl
  | cons p l ih =>
    obtain ⟨h1, h2, h3, h4⟩ := h
    have := (h4.cnt_le h3).1
    rw [cnt_cons] at hi
    simp only [nthS]; rw [if_neg (by omega)]
    exact ih h4 (by omega)
theorem nthS_some {a : Int} {l : List Sp} (h : PlainF a l) {i : Int} (h0 : 0 ≤ i) (hi : i < cnt l) : ∃ x, nthS l i = some x ∧ InS l x := by
  induction l generalizing a i with
  | nil => rw [cnt_nil] at hi; omega
  | cons p l ih =>
    obtain ⟨h1, h2, h3, h4⟩ := h
    rw [cnt_cons] at hi
    simp only [nthS]
    split
    · exact ⟨_, rfl, .inl ⟨by omega, by omega⟩⟩
    · obtain ⟨x, e, hx⟩ := ih h4 (i := i - (p.2 - p.1 + 1)) (by omega) (by omega)
      exact ⟨x, e, .inr hx⟩

/-- how many numbers of an interval answer yes -/
def cardB (f : Int → Bool) (lo : Int) : Nat → Int
  | 0 => 0
  | n + 1 => cardB f lo n + if f (lo + n) then 1 else 0
theorem cardB_congr {f g : Int → Bool} {lo : Int} {n : Nat} (h : ∀ x, lo ≤ x → x < lo + n → f x = g x) : cardB f lo n = cardB g lo n := by
  induction n with
  | zero => rfl
  | succ n ih => simp only [cardB]; rw [ih fun x h1 h2 => h x h1 (by omega), h _ (by omega) (by omega)]
theorem cardB_or {f g : Int → Bool} {lo : Int} {n : Nat} (h : ∀ x, f x = true → g x = true → False) : cardB (fun x => f x || g x) lo n = cardB f lo n + cardB g lo n := by
  induction n with
  | zero => rfl
  | succ n ih =>
    simp only [cardB]; rw [ih]
    have := h (lo + n)
    by_cases hf : f (lo + n) = true <;> by_cases hg : g (lo + n) = true <;> simp [hf, hg] at * <;> omega
theorem cardB_span (a b lo : Int) (n : Nat) : cardB (fun x => decide (a ≤ x) && decide (x ≤ b)) lo n = max 0 (min b (lo + n - 1) - max a lo + 1) := by
  induction n with
  | zero => simp only [cardB]; omega
  | succ n ih =>
    simp only [cardB]; rw [ih]
    by_cases h1 : a ≤ lo + n <;> by_cases h2 : lo + n ≤ b <;> simp [h1, h2] <;> omega
theorem PlainF.card {a : Int} {l : List Sp} (h : PlainF a l) {lo : Int} {n : Nat} (hlo : lo ≤ a + 2) (hn : 1073741824 < lo + n) : cnt l = cardB (memB l) lo n := by
  induction l generalizing a with
  | nil =>
    rw [cnt_nil]
    clear hn hlo h
    induction n with
    | zero => rfl
    | succ n ih => simp only [cardB]; rw [← ih]; simp [memB]
  | cons p l ih =>
    obtain ⟨h1, h2, h3, h4⟩ := h
    have e : cardB (memB (p :: l)) lo n = cardB (fun x => (decide (p.1 ≤ x) && decide (x ≤ p.2)) || memB l x) lo n := rfl
    rw [e, cardB_or, cardB_span, cnt_cons, ih h4 (by omega)]
    · omega
    · intro x g1 g2
      have := h4.low ((memB_iff _ _).1 g2)
      simp at g1
      omega
theorem Plain.card {l : List Sp} (h : Plain l) : cnt l = cardB (memB l) (-1073741824) 2147483649 := PlainF.card h (by omega) (by omega)
/-- of two sets that have nothing in common -/
theorem cnt_parts {r s t : List Sp} {S T : Int → Prop} (hr : Rep r (fun x => S x ∨ T x)) (hs : Rep s S) (ht : Rep t T) (h : ∀ x, S x → T x → False) : cnt s + cnt t = cnt r := by
  rw [hr.1.card, hs.1.card, ht.1.card, ← cardB_or]
  · refine cardB_congr fun x _ _ => ?_
    rw [Bool.eq_iff_iff, Bool.or_eq_true, memB_iff, memB_iff, memB_iff, hr.2, hs.2, ht.2]
  · intro x g1 g2
    exact h x ((hs.2 x).1 ((memB_iff _ _).1 g1)) ((ht.2 x).1 ((memB_iff _ _).1 g2))
theorem Plain.cnt_bd {l : List Sp} (h : Plain l) : 0 ≤ cnt l ∧ cnt l ≤ 2147483650 := by
  have := Plain.cnt_take h l.length
  rwa [List.take_length] at this
theorem mem_all (x : Int) : Mem [(-1073741824, 1073741824)] x ↔ (-1073741824 ≤ x ∧ x ≤ 1073741824) := by
  simp only [Mem, InS, or_false]; omega
theorem back_rep {a t rm bk : List Sp} {g k : Int} (hk : -g = k) (Rt : Rep t (fun x => -1073741824 ≤ x ∧ x ≤ 1073741824 ∧ Mem a (x - g))) (Rr : Rep rm (fun x => -1073741824 ≤ x ∧ x ≤ 1073741824 ∧ Mem [(-1073741824, 1073741824)] (x - k)))
    (Rb : Rep bk (fun x => -1073741824 ≤ x ∧ x ≤ 1073741824 ∧ Mem t (x - k))) : Rep bk (fun x => Mem a x ∧ Mem rm x) := by
  refine Rb.congr fun x => ?_
  have q0 := Rt.mem (x - k)
  have q1 := Rr.mem x
  have q2 := mem_all (x - k)
  have q3 := @Mem.bound a x
  have e : x - k - g = x := by omega
  rw [e] at q0
  show (-1073741824 ≤ x ∧ x ≤ 1073741824 ∧ Mem t (x - k)) ↔ _
  rw [q0, q1, q2]
  constructor
  · rintro ⟨h1, h2, h3, h4, h5⟩
    exact ⟨h5, h1, h2, h3, h4⟩
  · rintro ⟨h5, h1, h2, h3, h4⟩
    exact ⟨h1, h2, h3, h4, h5⟩
/-- an int as a uint, and what is left of it -/
theorem u64_ex (d : Int) : ∃ u, IntKind.u64.wrap d = u ∧ 0 ≤ u ∧ u ≤ 18446744073709551615 := by
  refine ⟨_, rfl, ?_⟩
  simp [IntKind.wrap, IntKind.signed, IntKind.bits]
  omega
theorem tmod_ex (u k : Int) (hu : 0 ≤ u) (hk : 0 < k) : ∃ q, u.tmod k = q ∧ 0 ≤ q ∧ q ≤ k - 1 := by
  refine ⟨_, rfl, Int.tmod_nonneg _ hu, ?_⟩
  have := Int.tmod_lt_of_pos u hk
  omega
end Go.Proofs.Ytdaagdohhnhbdaa
