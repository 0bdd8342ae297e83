/- The state of a walk: what is known of the slices at hand stays known; every set of numbers has a plain list; a set's number at a place. No function of the program in sight. Condition: none. Contracts of span.First, span.Last, span.At and of umlautref01.Nth, At, Count. Condition: lists of fewer than 2^20 spans (the document's) or 2^37 (the program's), whose numbers are ints. Appending a slice that reads as a list to a row of the call's own: nil and empty ones too; a step of a region that draws. No function of the program in sight. Condition: none. Contracts of slices.Grow of nil and of slices.Concat of two slices of spans. Condition: fewer than 2^38 spans each. Contracts of span.Union, Within, Meets, Move and of umlautref01.Move. Condition: lists of fewer than 2^37 spans (2^20 for the document's), whose numbers are ints. The contracts of the set functions said of a walk's state: what is at hand, and what is known behind the call. Condition: the slices at hand are known (Lst), the document's are no longer than 65535. -/
import Derived.Test.YtpmhdjiacgckjaaM04
import Derived.Test.YtpmhdjiacgckjaaM02
import Derived.Test.YtpmhdjiacgckjaaShelf
import Derived.Test.YtpmhdjiacgckjaaM03
import Derived.Deep.RegionHeld3
import Derived.Deep.AppendLies
section
namespace Go.Proofs.Ytpmhdjiacgckjaa
open Go.RowKit
set_option linter.unusedVariables false

/-- a slice of spans that is known: its numbers are ints, it is not too long -/
structure Lst (A : Option Addr) (l : List Sp) (W : World) : Prop where
  sp : Spans W A l.length l
  wd : SpW l
  len : l.length < 137438953472
theorem Lst.below {A : Option Addr} {l : List Sp} {w w' : World} (h : Lst A l w) (hb : Below w.heap.size w w') : Lst A l w' := ⟨h.sp.below hb, h.wd, h.len⟩

theorem PlainF.spw {a : Int} {l : List Sp} (h : PlainF a l) (ha : -1073741826 ≤ a) : ∀ p ∈ l, -1073741824 ≤ p.1 ∧ p.1 ≤ p.2 ∧ p.2 ≤ 1073741824 := by
  induction l generalizing a with
  | nil => intro p hp; cases hp
  | cons q l ih =>
    obtain ⟨h1, h2, h3, h4⟩ := h
    intro p hp
    rcases List.mem_cons.1 hp with rfl | hp
    · omega
    · exact ih h4 (by omega) p hp
theorem Plain.spw {l : List Sp} (h : Plain l) : SpW l := fun p hp => by have := PlainF.spw h (Int.le_refl _) p hp; omega
theorem PlainF.len_le {a : Int} {l : List Sp} (h : PlainF a l) (ha : a ≤ 1073741824) : 2 * (l.length : Int) ≤ 1073741824 - a := by
  induction l generalizing a with
  | nil => simp; omega
  | cons q l ih =>
    obtain ⟨h1, h2, h3, h4⟩ := h
    have := ih h4 h3
    simp; omega
theorem Plain.len_le {l : List Sp} (h : Plain l) : l.length ≤ 1073741825 := by have := PlainF.len_le h (by omega); omega
theorem Plain.lst {l : List Sp} (h : Plain l) {A : Option Addr} {w : World} (hs : Spans w A l.length l) : ∀ W, Below w.heap.size w W → Lst A l W :=
  fun W hW => ⟨hs.below hW, h.spw, by have := h.len_le; omega⟩

theorem last_cases (l : List Sp) : l = [] ∨ ∃ m q, l = m ++ [q] := by
  rcases List.eq_nil_or_concat l with h | ⟨m, q, h⟩
  · exact .inl h
  · exact .inr ⟨m, q, by simpa using h⟩
/-- every set of numbers has a plain list -/
theorem rep_upto (S : Int → Prop) (N : Nat) (hN : N ≤ 2147483649) : ∃ r, Rep r (fun x => S x ∧ -1073741824 ≤ x ∧ x < -1073741824 + (N : Int)) := by
  induction N with
  | zero => exact ⟨[], trivial, fun x => by simp only [InS, false_iff]; omega⟩
  | succ N ih =>
    obtain ⟨r, hp, hr⟩ := ih (by omega)
    by_cases hy : S (-1073741824 + (N : Int))
    · rcases last_cases r with rfl | ⟨m, q, rfl⟩
      · refine ⟨[(-1073741824 + (N : Int), -1073741824 + (N : Int))], ⟨by simp only; omega, by simp, by simp only; omega, trivial⟩, fun x => ?_⟩
        have := hr x
        simp only [InS, or_false, false_iff] at this ⊢
        constructor
        · intro h
          obtain rfl : x = -1073741824 + (N : Int) := by omega
          exact ⟨hy, by omega, by omega⟩
        · rintro ⟨h1, h2, h3⟩
          by_cases e : x = -1073741824 + (N : Int)
          · omega
          · exact absurd ⟨h1, h2, by omega⟩ this
      · have hl := PlainF.last hp
        have hq : InS (m ++ [q]) q.2 := (InS_append _ _ _).2 (.inr (.inl ⟨by omega, by omega⟩))
        have hql := ((hr _).1 hq).2
        by_cases hj : q.2 + 1 = -1073741824 + (N : Int)
        · refine ⟨m ++ [(q.1, -1073741824 + (N : Int))], PlainF.snoc (PlainF.init hp) hl.1 hl.2.1 (by simp only; omega) (by simp only; omega), fun x => ?_⟩
          have hx := hr x
          rw [InS_append] at hx ⊢
          simp only [InS, or_false] at hx ⊢
          constructor
          · rintro (h | h)
            · have := hx.1 (.inl h); exact ⟨this.1, by omega, by omega⟩
            · by_cases e : x = -1073741824 + (N : Int)
              · subst e; exact ⟨hy, by omega, by omega⟩
              · have := hx.1 (.inr ⟨by omega, by omega⟩); exact ⟨this.1, by omega, by omega⟩
          · rintro ⟨h1, h2, h3⟩
            by_cases e : x = -1073741824 + (N : Int)
            · exact .inr ⟨by omega, by omega⟩
            · rcases hx.2 ⟨h1, h2, by omega⟩ with h | h
              · exact .inl h
              · exact .inr ⟨by omega, by omega⟩
        · refine ⟨(m ++ [q]) ++ [(-1073741824 + (N : Int), -1073741824 + (N : Int))], PlainF.snoc hp (by simp only; have := hp.low hq; omega) (fun p hp' => ?_) (by simp) (by simp only; omega), fun x => ?_⟩
          · simp only
            rcases List.mem_append.1 hp' with h | h
            · have := hl.2.1 p h; omega
            · simp at h; subst h; omega
          · have hx := hr x
            rw [InS_append (m ++ [q]), hx]
            simp only [InS, or_false]
            constructor
            · rintro (h | h)
              · exact ⟨h.1, by omega, by omega⟩
              · obtain rfl : x = -1073741824 + (N : Int) := by omega
                exact ⟨hy, by omega, by omega⟩
            · rintro ⟨h1, h2, h3⟩
              by_cases e : x = -1073741824 + (N : Int)
              · exact .inr ⟨by omega, by omega⟩
              · exact .inl ⟨h1, h2, by omega⟩
    · refine ⟨r, hp, fun x => ?_⟩
      rw [hr x]
      constructor
      · rintro ⟨h1, h2, h3⟩; exact ⟨h1, h2, by omega⟩
      · rintro ⟨h1, h2, h3⟩
        refine ⟨h1, h2, ?_⟩
        by_cases e : x = -1073741824 + (N : Int)
        · subst e; exact absurd h1 hy
        · omega
theorem rep_all (S : Int → Prop) (hS : ∀ x, S x → -1073741824 ≤ x ∧ x ≤ 1073741824) : ∃ r, Rep r S := by
  obtain ⟨r, hr⟩ := rep_upto S 2147483649 (by omega)
  exact ⟨r, hr.congr fun x => ⟨fun h => h.1, fun h => ⟨h, by have := hS x h; omega, by have := hS x h; omega⟩⟩⟩
theorem Mem.bound {l : List Sp} {x : Int} (h : Mem l x) : -1073741824 ≤ x ∧ x ≤ 1073741824 := ⟨h.1, h.2.1⟩
theorem rep_norm (a : List Sp) : ∃ r, Hid (Rep r (Mem a)) := rep_all _ fun _ h => Mem.bound h
theorem rep_union (a b : List Sp) : ∃ r, Hid (Rep r (fun x => Mem a x ∨ Mem b x)) := rep_all _ fun _ h => h.elim Mem.bound Mem.bound
theorem rep_meet (a b : List Sp) : ∃ r, Hid (Rep r (fun x => Mem a x ∧ Mem b x)) := rep_all _ fun _ h => Mem.bound h.1
theorem rep_minus (a b : List Sp) : ∃ r, Hid (Rep r (fun x => Mem a x ∧ ¬ Mem b x)) := rep_all _ fun _ h => Mem.bound h.1
theorem rep_move (a : List Sp) (d : Int) : ∃ r, Hid (Rep r (fun x => -1073741824 ≤ x ∧ x ≤ 1073741824 ∧ Mem a (x - d))) := rep_all _ fun _ h => ⟨h.1, h.2.1⟩
/-- a plain list's own numbers -/
theorem Rep.mem {r : List Sp} {S : Int → Prop} (h : Rep r S) (x : Int) : Mem r x ↔ S x := (h.1.mem x).trans (h.2 x)

theorem NInv.ex {l : List Sp} (hs : Srt l) (i : Nat) (hi : i ≤ l.length) : ∃ o, NInv l i o := by
  induction i with
  | zero => exact ⟨[], NInv.start l⟩
  | succ i ih =>
    obtain ⟨o, ho⟩ := ih (by omega)
    have hx : l[i]? = some l[i] := List.getElem?_eq_getElem (by omega)
    rcases last_cases o with rfl | ⟨m, q, rfl⟩
    · exact ⟨_, ho.push hs hx fun m q e => by simp at e⟩
    · by_cases hj : l[i].1 ≤ q.2 + 1
      · exact ⟨_, ho.merge hs hx hj⟩
      · refine ⟨_, ho.push hs hx fun m' q' e => ?_⟩
        have := List.append_inj_right' e rfl
        simp at this
        rw [← this]; omega
/-- a plain list is no longer than any list of its set -/
theorem Rep.len_le {l r : List Sp} (hr : Rep r (Mem l)) : r.length ≤ l.length := by
  have hp := List.mergeSort_perm (clips l) (fun p q => decide (p.1 ≤ q.1))
  have hw := List.pairwise_mergeSort (le := fun p q : Sp => decide (p.1 ≤ q.1)) (fun a b c h1 h2 => by simp at *; omega) (fun a b => by simp; omega) (clips l)
  have hs : Srt ((clips l).mergeSort (fun p q => decide (p.1 ≤ q.1))) := ⟨hw.imp (fun h => by simpa using h), fun p h => clips_mem (hp.mem_iff.1 h)⟩
  obtain ⟨o, ho⟩ := NInv.ex hs _ (Nat.le_refl _)
  obtain rfl := Rep.unique (ho.rep hp) hr (fun _ => Iff.rfl)
  have := ho.len
  rw [hp.length_eq] at this
  exact Nat.le_trans this (clips_length l)

/-- the number at a place -/
def nthS : List Sp → Int → Option Int
  | [], _ => none
  | p :: l, i => if i < p.2 - p.1 + 1 then some (p.1 + i) else nthS l (i - (p.2 - p.1 + 1))
def nthI (l : List Sp) (i : Int) : Option Int := if i < 0 then none else nthS l i
def optV (o : Option Int) : Value := .tuple #[.int .i64 (o.getD 0), .bool o.isSome]
theorem PlainF.cnt_pos {a : Int} {l : List Sp} (h : PlainF a l) : l = [] ∨ 0 < cnt l := by
  cases l with
  | nil => exact .inl rfl
  | cons p l =>
    obtain ⟨h1, h2, h3, h4⟩ := h
    have := h4.cnt_le h3
    right; rw [cnt_cons]; omega
theorem nthS_first {a : Int} {p : Sp} {l : List Sp} (h : PlainF a (p :: l)) : nthS (p :: l) 0 = some p.1 := by
  obtain ⟨h1, h2, _⟩ := h
  simp only [nthS]; rw [if_pos (by omega)]; simp
theorem nthS_last {a : Int} {q : Sp} {l : List Sp} (h : PlainF a (l ++ [q])) : nthS (l ++ [q]) (cnt (l ++ [q]) - 1) = some q.2 := by
  induction l generalizing a with
  | nil =>
    obtain ⟨h1, h2, _⟩ := h
    simp only [List.nil_append, cnt_cons, cnt_nil, nthS]; rw [if_pos (by omega)]; congr 1; omega
  | cons p l ih =>
    obtain ⟨h1, h2, h3, h4⟩ := h
    have hp : 0 < cnt (l ++ [q]) := by
      rcases h4.cnt_pos with e | e
      · simp at e
      · exact e
    have := ih h4
    rw [List.cons_append, cnt_cons]
    simp only [nthS]
    rw [if_neg (by omega)]
    rw [← this]; congr 1; omega
theorem nthS_none {a : Int} {l : List Sp} (h : PlainF a l) {i : Int} (hi : cnt l ≤ i) : nthS l i = none := by
  induction l generalizing a i with
  | nil => rfl
  | cons p l ih =>
    obtain ⟨h1, h2, h3, h4⟩ := h
    have := (h4.cnt_le h3).1
    rw [cnt_cons] at hi
    simp only [nthS]; rw [if_neg (by omega)]
    exact ih h4 (by omega)
theorem nthS_some {a : Int} {l : List Sp} (h : PlainF a l) {i : Int} (h0 : 0 ≤ i) (hi : i < cnt l) : ∃ x, nthS l i = some x ∧ InS l x := by
  induction l generalizing a i with
  | nil => rw [cnt_nil] at hi; omega
  | cons p l ih =>
    obtain ⟨h1, h2, h3, h4⟩ := h
    rw [cnt_cons] at hi
    simp only [nthS]
    split
    · exact ⟨_, rfl, .inl ⟨by omega, by omega⟩⟩
    · obtain ⟨x, e, hx⟩ := ih h4 (i := i - (p.2 - p.1 + 1)) (by omega) (by omega)
      exact ⟨x, e, .inr hx⟩

/-- how many numbers of an interval answer yes -/
def cardB (f : Int → Bool) (lo : Int) : Nat → Int
  | 0 => 0
  | n + 1 => cardB f lo n + if f (lo + n) then 1 else 0
theorem cardB_congr {f g : Int → Bool} {lo : Int} {n : Nat} (h : ∀ x, lo ≤ x → x < lo + n → f x = g x) : cardB f lo n = cardB g lo n := by
  induction n with
  | zero => rfl
  | succ n ih => simp only [cardB]; rw [ih fun x h1 h2 => h x h1 (by omega), h _ (by omega) (by omega)]
theorem cardB_or {f g : Int → Bool} {lo : Int} {n : Nat} (h : ∀ x, f x = true → g x = true → False) : cardB (fun x => f x || g x) lo n = cardB f lo n + cardB g lo n := by
  induction n with
  | zero => rfl
  | succ n ih =>
    simp only [cardB]; rw [ih]
    have := h (lo + n)
    by_cases hf : f (lo + n) = true <;> by_cases hg : g (lo + n) = true <;> simp [hf, hg] at * <;> omega
theorem cardB_span (a b lo : Int) (n : Nat) : cardB (fun x => decide (a ≤ x) && decide (x ≤ b)) lo n = max 0 (min b (lo + n - 1) - max a lo + 1) := by
  induction n with
  | zero => simp only [cardB]; omega
  | succ n ih =>
    simp only [cardB]; rw [ih]
    by_cases h1 : a ≤ lo + n <;> by_cases h2 : lo + n ≤ b <;> simp [h1, h2] <;> omega
theorem PlainF.card {a : Int} {l : List Sp} (h : PlainF a l) {lo : Int} {n : Nat} (hlo : lo ≤ a + 2) (hn : 1073741824 < lo + n) : cnt l = cardB (memB l) lo n := by
  induction l generalizing a with
  | nil =>
    rw [cnt_nil]
    clear hn hlo h
    induction n with
    | zero => rfl
    | succ n ih => simp only [cardB]; rw [← ih]; simp [memB]
  | cons p l ih =>
    obtain ⟨h1, h2, h3, h4⟩ := h
    have e : cardB (memB (p :: l)) lo n = cardB (fun x => (decide (p.1 ≤ x) && decide (x ≤ p.2)) || memB l x) lo n := rfl
    rw [e, cardB_or, cardB_span, cnt_cons, ih h4 (by omega)]
    · omega
    · intro x g1 g2
      have := h4.low ((memB_iff _ _).1 g2)
      simp at g1
      omega
theorem Plain.card {l : List Sp} (h : Plain l) : cnt l = cardB (memB l) (-1073741824) 2147483649 := PlainF.card h (by omega) (by omega)
/-- of two sets that have nothing in common -/
theorem cnt_parts {r s t : List Sp} {S T : Int → Prop} (hr : Rep r (fun x => S x ∨ T x)) (hs : Rep s S) (ht : Rep t T) (h : ∀ x, S x → T x → False) : cnt s + cnt t = cnt r := by
  rw [hr.1.card, hs.1.card, ht.1.card, ← cardB_or]
  · refine cardB_congr fun x _ _ => ?_
    rw [Bool.eq_iff_iff, Bool.or_eq_true, memB_iff, memB_iff, memB_iff, hr.2, hs.2, ht.2]
  · intro x g1 g2
    exact h x ((hs.2 x).1 ((memB_iff _ _).1 g1)) ((ht.2 x).1 ((memB_iff _ _).1 g2))
theorem Plain.cnt_bd {l : List Sp} (h : Plain l) : 0 ≤ cnt l ∧ cnt l ≤ 2147483650 := by
  have := Plain.cnt_take h l.length
  rwa [List.take_length] at this
theorem mem_all (x : Int) : Mem [(-1073741824, 1073741824)] x ↔ (-1073741824 ≤ x ∧ x ≤ 1073741824) := by
  simp only [Mem, InS, or_false]; omega
theorem back_rep {a t rm bk : List Sp} {g k : Int} (hk : -g = k) (Rt : Rep t (fun x => -1073741824 ≤ x ∧ x ≤ 1073741824 ∧ Mem a (x - g))) (Rr : Rep rm (fun x => -1073741824 ≤ x ∧ x ≤ 1073741824 ∧ Mem [(-1073741824, 1073741824)] (x - k)))
    (Rb : Rep bk (fun x => -1073741824 ≤ x ∧ x ≤ 1073741824 ∧ Mem t (x - k))) : Rep bk (fun x => Mem a x ∧ Mem rm x) := by
  refine Rb.congr fun x => ?_
  have q0 := Rt.mem (x - k)
  have q1 := Rr.mem x
  have q2 := mem_all (x - k)
  have q3 := @Mem.bound a x
  have e : x - k - g = x := by omega
  rw [e] at q0
  show (-1073741824 ≤ x ∧ x ≤ 1073741824 ∧ Mem t (x - k)) ↔ _
  rw [q0, q1, q2]
  constructor
  · rintro ⟨h1, h2, h3, h4, h5⟩
    exact ⟨h5, h1, h2, h3, h4⟩
  · rintro ⟨h5, h1, h2, h3, h4⟩
    exact ⟨h1, h2, h3, h4, h5⟩
/-- an int as a uint, and what is left of it -/
theorem u64_ex (d : Int) : ∃ u, IntKind.u64.wrap d = u ∧ 0 ≤ u ∧ u ≤ 18446744073709551615 := by
  refine ⟨_, rfl, ?_⟩
  simp [IntKind.wrap, IntKind.signed, IntKind.bits]
  omega
theorem tmod_ex (u k : Int) (hu : 0 ≤ u) (hk : 0 < k) : ∃ q, u.tmod k = q ∧ 0 ≤ q ∧ q ≤ k - 1 := by
  refine ⟨_, rfl, Int.tmod_nonneg _ hu, ?_⟩
  have := Int.tmod_lt_of_pos u hk
  omega
end Go.Proofs.Ytpmhdjiacgckjaa
end
section
namespace Go.Proofs.Ytpmhdjiacgckjaa
open Go.RowKit
set_option linter.unusedVariables false

def optD (o : Option Int) : Int := match o with | some x => x | none => 0
def optB (o : Option Int) : Bool := match o with | some _ => true | none => false
theorem ret_pair {a b : Int} {c d : Bool} (h : a = b) (h' : c = d) : Ending.returned (.tuple #[.int .i64 a, .bool c]) = .returned (.tuple #[.int .i64 b, .bool d]) := by rw [h, h']

set_option maxRecDepth 100000 in
set_option maxHeartbeats 4000000 in
theorem Last_any (A : Option Addr) (n c : Nat) (l r : List Sp) (w : World) (h : Spans w A n l) (hw : SpW l) (hn : n < 137438953472) (hr : Rep r (Mem l)) :
    Gives Try.prog 35 #[.slice A n c] w (.tuple #[.int .i64 (optD (nthS r (cnt r - 1))), .bool (optB (nthS r (cnt r - 1)))]) := by
  have HN := Lib.hid (Norm_any A n c l w h hw (by omega))
  have HR := Lib.hid hr
  clear h hr
  unfold Gives
  go_enter Try.func35, Try.ntmps35
  go_wp2_with fail
  refine HN.out.mono ?_
  rintro e w1 ⟨r', ho, hr', hrl⟩
  obtain rfl : r' = r := Rep.unique hr' HR.out (fun _ => Iff.rfl)
  obtain ⟨g1, c1, rfl, hg1, hc1, hm1, hrow1, hb1⟩ := ho.shape
  have HRow1 := Lib.hid hrow1
  have HB1 := Lib.hid hb1
  clear ho hrow1 hb1 hr' HN
  rcases last_cases r' with rfl | ⟨m, q, rfl⟩
  · go_wp2_with fail
    go_ret2
    exact ⟨rfl, HB1.out⟩
  · have hf := Lib.hid (nthS_last HR.out.1)
    have hd : w1.cell? ⟨g1, m.length * 2 + 1, none⟩ = some (.int .i64 q.2) := by rw [HRow1.out.cellAt _ (by simp; omega)]; exact (spanCells_at _ _ _ (by simp)).2
    have hle : (m ++ [q]).length = m.length + 1 := by simp
    rw [hle] at hrl hc1 ⊢
    obtain ⟨N, hN⟩ : ∃ N, m.length = N := ⟨_, rfl⟩
    rw [hN] at hrl hc1 hd ⊢
    clear hle hN
    go_wp2_with fail
    go_ret2
    exact ⟨ret_pair (by rw [hf.out]; rfl) (by rw [hf.out]; rfl), HB1.out⟩

set_option maxRecDepth 100000 in
set_option maxHeartbeats 8000000 in
theorem Nth_any (A : Option Addr) (n c : Nat) (r : List Sp) (i : Int) (w : World) (h : Spans w A n r) (hn : n ≤ 9223372036854775806) (hr : Plain r) (hi : i ≤ 9223372036854775807) :
    Drawn Try.prog 43 #[.slice A n c, .int .i64 i] w (.tuple #[.int .i64 (optD (nthI r i)), .bool (optB (nthI r i))]) := by
  have HA := Lib.hid h
  have HR := Lib.hid hr
  have HL := Lib.hid h.len
  clear h hr
  unfold Drawn
  go_enter Try.func43, Try.ntmps43
  go_wp2_with fail
  go_loopw [1, 6] (fun s j wr => ∃ (k : Nat) (x : Int) (q : Nat), k ≤ n ∧ j = .int .i64 k ∧ s = .int .i64 x ∧ x ≤ i ∧ Hid (nthI (r.drop k) x = nthI r i) ∧ wr = w.drewN q) (fun _ j _ => n - (intOf j).toNat)
  case atStart => exact ⟨0, i, 0, Nat.zero_le _, rfl, rfl, Int.le_refl _, rfl, rfl⟩
  case round =>
  obtain ⟨k, x, q, hk, rfl, rfl, hxi, HX, rfl⟩ := hrel
  by_cases hlt : k < n
  · by_cases hx0 : x < 0
    · have hv : Hid (nthI r i = none) := by
        unfold Hid
        rw [← HX.out]
        exact if_pos hx0
      have hx1 : decide (0 ≤ x) = false := by simp; omega
      go_wp2_with fail
      go_ret2
      exact ⟨ret_pair (by rw [hv.out]; rfl) (by rw [hv.out]; rfl), q, rfl⟩
    · obtain ⟨b, off, p, rfl, hp, hc1, hc2⟩ := HA.out.at_ hlt
      have hx2 : 0 ≤ x := by omega
      have hxb := PlainF.mem HR.out (List.mem_of_getElem? hp)
      have E := Lib.hid (drop_cons? hp)
      obtain ⟨x1, x2⟩ := p
      simp only at hxb hc1 hc2
      clear hp
      by_cases hge : x2 - x1 + 1 ≤ x
      · go_wp2_with fail
        go_quiet (fail)
        go_wp2_with fail
        go_roundw
        case rel =>
          refine ⟨k + 1, x - (x2 - x1 + 1), _, by omega, by go_num, by go_num, by omega, ?_, rfl⟩
          unfold Hid
          rw [← HX.out, E.out]
          unfold nthI
          rw [if_neg (by omega), if_neg (by omega)]
          simp only [nthS]
          rw [if_neg (by omega)]
        case measure => simp [intOf]; omega
      · have hv : Hid (nthI r i = some (x1 + x)) := by
          unfold Hid
          rw [← HX.out, E.out]
          unfold nthI
          rw [if_neg (by omega)]
          simp only [nthS]
          rw [if_pos (by omega)]
        go_wp2_with fail
        go_quiet (fail)
        go_wp2_with fail
        go_ret2
        exact ⟨ret_pair (by rw [hv.out]; rfl) (by rw [hv.out]; rfl), _, rfl⟩
  · have hd : decide (k < n) = false := by simpa using hlt
    obtain rfl : k = n := by omega
    have hv : Hid (nthI r i = none) := by
      unfold Hid
      rw [← HX.out, List.drop_of_length_le (by rw [HL.out]; exact Nat.le_refl _)]
      unfold nthI
      split <;> rfl
    go_wp2_with fail
    go_ret2
    exact ⟨ret_pair (by rw [hv.out]; rfl) (by rw [hv.out]; rfl), q, rfl⟩

set_option maxRecDepth 100000 in
set_option maxHeartbeats 8000000 in
theorem rCount_any (A : Option Addr) (n c : Nat) (l r : List Sp) (w : World) (h : Spans w A n l) (hw : SpW l) (hn : n < 1048576) (hr : Rep r (Mem l)) :
    Gives Try.prog 27 #[.slice A n c] w (.int .i64 (cnt r)) := by
  have HN := Lib.hid (rNorm_any A n c l w h hw hn)
  have HR := Lib.hid hr
  clear h hr
  unfold Gives
  go_enter Try.func27, Try.ntmps27
  go_wp2_with fail
  refine HN.out.mono ?_
  rintro e w1 ho
  obtain ⟨A1, c1, rfl, hsp1, hb1⟩ := use_newRep ho HR.out
  have HS1 := Lib.hid hsp1
  have HB1 := Lib.hid hb1
  have hlb := HR.out.1.len_le
  clear ho hsp1 hb1
  go_wp2_with fail
  go_loopw [3, 5] (fun s j wr => ∃ (k q : Nat), k ≤ r.length ∧ j = .int .i64 k ∧ s = .int .i64 (cnt (r.take k)) ∧ wr = w1.drewN q) (fun _ j _ => r.length - (intOf j).toNat)
  case atStart => exact ⟨0, 0, Nat.zero_le _, rfl, rfl, rfl⟩
  case round =>
  obtain ⟨k, q, hk, rfl, rfl, rfl⟩ := hrel
  by_cases hlt : k < r.length
  · obtain ⟨b, off, p, rfl, hp, hc1, hc2⟩ := HS1.out.at_ hlt
    have hxb := PlainF.mem HR.out.1 (List.mem_of_getElem? hp)
    have e : cnt (r.take (k + 1)) = cnt (r.take k) + (p.2 - p.1 + 1) := by rw [take_snoc? hp, cnt_append, cnt_cons, cnt_nil]; omega
    have hct1 := Plain.cnt_take HR.out.1 k
    have hct2 := Plain.cnt_take HR.out.1 (k + 1)
    have E := Lib.hid e
    obtain ⟨x1, x2⟩ := p
    simp only at hxb hct2 e hc1 hc2
    rw [e] at hct2
    clear e hp
    go_wp2_with fail
    go_quiet (fail)
    go_wp2_with fail
    go_roundw
    case rel => exact ⟨k + 1, _, by omega, by go_num, by rw [E.out]; go_num, rfl⟩
    case measure => simp [intOf]; omega
  · have hd : decide (k < r.length) = false := by simpa using hlt
    obtain rfl : k = r.length := by omega
    go_wp2_with fail
    go_ret
    exact ⟨ret_int (by rw [List.take_length]), below_drewN HB1.out _⟩
end Go.Proofs.Ytpmhdjiacgckjaa
end
section
namespace Go.Proofs.Ytpmhdjiacgckjaa
open Go.RowKit
set_option linter.unusedVariables false

/-- 'append(out, xs...)': the source nil, empty or not -/
theorem run_append_of_nil {P : Program} (w : World) (base : Nat) (t ty e : TypeId) (i : TypeInfo) (size : Nat) (ht : P.underlying t = some (.slice e)) (hi : P.info? e = some i)
    (v : Value) (n : Nat) (xs : List Value) (hown : w.ownsRow base e size v n xs) (c : Nat) : (Builtin.append_ #[t, t] ty #[v, .slice none 0 c]).run P w = .ok v w := by
  rcases hown.2 with ⟨rfl, rfl⟩ | ⟨g, cap, cur, rfl, _, _, hnc, _⟩
  · simp [Builtin.append_, run_underlying ht, sizeOf, typeInfo, hi, Builtin.lenOf, Builtin.firstCells]
  · simp [Builtin.append_, run_underlying ht, sizeOf, typeInfo, hi, Builtin.lenOf, Builtin.firstCells, hnc, storeCells]
theorem add_plain (b off j : Nat) : (⟨b, off, none⟩ : Addr).add j = ⟨b, off + j, none⟩ := by unfold Addr.add; split <;> simp_all
theorem run_append_sl {P : Program} (w : World) (base : Nat) (t ty e : TypeId) (i : TypeInfo) (z : Value) (size bytes : Nat) (ht : P.underlying t = some (.slice e)) (hi : P.info? e = some i) (hz : i.zero = some z)
    (hsize : i.size = size) (hby : i.bytes = bytes) (hzs : z.cells.size = size) (hsz : 0 < size)
    (v : Value) (n : Nat) (xs : List Value) (hown : w.ownsRow base e size v n xs)
    (A : Option Addr) (m c : Nat) (news : List Value) (hr : Sl w size A m news) (h1 : ∀ u ∈ news, u.oneCell' = true)
    (h63 : n + m ≤ maxLen) (hbytes : (n + m) * bytes ≤ 140737488355328) (hbase : base ≤ w.heap.size) :
    ∃ v' w', (Builtin.append_ #[t, t] ty #[v, .slice A m c]).run P w = .ok v' w' ∧ w'.ownsRow base e size v' (n + m) (xs ++ news) ∧ w.grownBy w' v.ownBlock := by
  rcases A with _ | ad
  · have hm : m = 0 := by
      rcases Nat.eq_zero_or_pos m with h0 | h0
      · exact h0
      · obtain ⟨b, off, h, _⟩ := hr.2 h0
        cases h
    subst hm
    have hn : news = [] := List.eq_nil_of_length_eq_zero (by simpa using hr.1)
    subst hn
    exact ⟨v, w, run_append_of_nil w base t ty e i size ht hi v n xs hown c, by simpa using hown, World.grownBy.refl w _⟩
  · have hcells : ∀ j u, news[j]? = some u → w.cell? (ad.add j) = some u := by
      intro j u hu
      rcases Nat.eq_zero_or_pos m with h0 | h0
      · subst h0
        have hn : news = [] := List.eq_nil_of_length_eq_zero (by simpa using hr.1)
        subst hn
        simp at hu
      · obtain ⟨b, off, h, hc⟩ := hr.2 h0
        cases h
        rw [add_plain]
        exact hc j u hu
    obtain ⟨v', w', hrun, h2, h3, _⟩ := run_append_own_at (P := P) w base t ty e i z size bytes ht hi hz hsize hby hzs hsz v n xs hown ad m c news hr.1 hcells h1 h63 hbytes hbase
    exact ⟨v', w', hrun, h2, h3⟩
theorem wpList_append_sl {P : Program} (w : World) {ops : Array Oper} {rest : List Oper} {o : Oper} {a : Act} {Q : Exit → Act → World → Prop} (hgd : o.guard = none) (s x : Operand) (t : TypeId)
    (ho : o.op = .call { callee := .builtin .append, args := #[s, x], argTypes := #[t, t] })
    (base : Nat) (e : TypeId) (i : TypeInfo) (z : Value) (size bytes : Nat) (ht : P.underlying t = some (.slice e)) (hi : P.info? e = some i) (hz : i.zero = some z)
    (hsize : i.size = size) (hby : i.bytes = bytes) (hzs : z.cells.size = size) (hsz : 0 < size)
    {v : Value} {n : Nat} {xs : List Value} (hown : w.ownsRow base e size v n xs) (hs : a.eval s = v)
    {A : Option Addr} {m c : Nat} {news : List Value} (hr : Sl w size A m news) (hx : a.eval x = .slice A m c) (h1 : ∀ u ∈ news, u.oneCell' = true)
    (h63 : n + m ≤ maxLen) (hbytes : (n + m) * bytes ≤ 140737488355328) (hbase : base ≤ w.heap.size)
    (h : ∀ v' w', w'.ownsRow base e size v' (n + m) (xs ++ news) → w.grownBy w' v.ownBlock → wpList P ops Q rest (a.put o.dst v') w') : wpList P ops Q (o :: rest) a w := by
  refine wpList_plain hgd fun _ hK => ?_
  obtain ⟨v', w', hrun, h2, h3⟩ := run_append_sl (P := P) w base t o.type e i z size bytes ht hi hz hsize hby hzs hsz v n xs hown A m c news hr h1 h63 hbytes hbase
  unfold Oper.wp execOp
  simp only [ho, resolve, invoke, builtin, Sem.run_bind, Sem.run_pure, Result.andThen_ok, List.map_toArray, List.map_cons, List.map_nil, hs, hx, hrun]
  exact hK _ _ (h v' w' h2 h3)

/-- 'out = append(out, x)' as a step of a region that draws its order -/
theorem step_push {P : Program} {w : World} {ops : Array Oper} {o : Oper} {a : Act} {K : Act → World → Prop} {Q : Exit → Act → World → Prop} {E : Prop} (hgd : o.guard = none) (s x : Operand) (t : TypeId)
    (ho : o.op = .call { callee := .builtin .append, args := #[s, x], argTypes := #[t, t] })
    (base : Nat) (e : TypeId) (i : TypeInfo) (z : Value) (size bytes : Nat) (ht : P.underlying t = some (.slice e)) (hi : P.info? e = some i) (hz : i.zero = some z)
    (hsize : i.size = size) (hby : i.bytes = bytes) (hzs : z.cells.size = size) (hsz : 0 < size)
    {v : Value} {n : Nat} {xs : List Value} (hown : w.ownsRow base e size v n xs) (hs : a.eval s = v)
    (B : Nat) (news : List Value) (e' : TypeId) (hx : a.eval x = .slice (some ⟨B, 0, none⟩) 1 1) (hl : news.length = size) (h1 : ∀ u ∈ news, u.oneCell' = true)
    (hB : w.heap[B]? = some (.cells news.toArray e' (0, 0)))
    (hn : n < 1099511627776) (hb : bytes ≤ 128) (hbase : base ≤ w.heap.size)
    (h : ∀ v' w', w'.ownsRow base e size v' (n + 1) (xs ++ news) → w.grownBy w' v.ownBlock → K (a.put o.dst v') w') :
    if Region.wanted o (yielded ops a.tmps) = true then Oper.wp P o a w K Q else E := by
  refine step_append_lies w hgd s x t ho base e i z size bytes ht hi hz hsize hby hzs hsz v n xs hs hown ⟨B, 0, none⟩ 1 1 news hx (by omega) (World.news_of_block (cs := news.toArray) (t := e') (fr := (0, 0)) hB) h1 (by omega) (by unfold maxLen; omega) ?_ hbase _ rfl
    (fun g cap w' h1 h2 _ _ => h _ _ h1 h2)
  have : (n + 1) * bytes ≤ (n + 1) * 128 := Nat.mul_le_mul_left _ hb
  omega
end Go.Proofs.Ytpmhdjiacgckjaa
end
section
namespace Go.Proofs.Ytpmhdjiacgckjaa
open Go.RowKit
set_option linter.unusedVariables false

theorem GrowNil_any (n : Nat) (hn : n < 1099511627776) (w : World) :
    Calls Try.prog 80 #[.slice none 0 0, .int .i64 n] w fun e w' => ∃ v, e = .returned v ∧ w'.ownsRow w.heap.size 52 2 v 0 [] ∧ Below w.heap.size w w' := by
  obtain ⟨i0, hi, hz0, hz1, hz2⟩ := info_parts info59
  by_cases h0 : n = 0
  · subst h0
    refine Calls.mono (Any8.slices_Grow_room Try.growSpan none 0 0 0 w (by omega) (by omega) (by omega) (by omega)) ?_
    rintro e w' ⟨rfl, rfl⟩
    exact ⟨_, rfl, World.ownsRow_nil _ _ _ _, Below.refl _ _⟩
  · refine Calls.mono (Any8.slices_Grow_grow Try.growSpan i0 _ hi hz0 (by rw [hz1]; decide) none 0 0 n [] w (by omega) (by omega) (by rw [hz2]; omega) (by omega) (by simp) (fun _ => rfl) (fun a h => by cases h)) ?_
    rintro e w' ⟨rfl, rfl⟩
    have hcap := grownCap_le_maxLen w (0 + n) 0 52 (by unfold maxLen; omega)
    have hcg := grownCap_ge w (0 + n) 0 52
    refine ⟨_, rfl, ⟨by simp, .inr ⟨w.heap.size, _, _, rfl, Nat.le_refl _, heap_alloc_new _ _, by omega, hcap, ?_, by simp⟩⟩, ?_⟩
    · have e2 : (Value.agg #[Value.int IntKind.i64 0, Value.int IntKind.i64 0]).cells.size = 2 := rfl
      have hcg2 : 0 + n ≤ grownCap w (0 + n) 0 (Try.growSpan_ren.t 25) := hcg
      simp only [Array.size_append, size_zeroCells, e2]
      simp only [List.size_toArray, List.length_nil]
      omega
    · exact (below_drewN (Below.refl _ _) 1).alloc (Nat.le_refl _) _

theorem spans_one (l : List Sp) : ∀ u ∈ spanCells l, u.oneCell' = true := by
  intro u hu
  simp only [spanCells, List.mem_flatMap] at hu
  obtain ⟨p, _, hu⟩ := hu
  simp at hu
  rcases hu with rfl | rfl <;> rfl

set_option maxRecDepth 100000 in
set_option maxHeartbeats 8000000 in
theorem Concat2_any (b : Nat) (A B : Option Addr) (n c m d : Nat) (x y : List Sp) (w : World) (h : Spans w A n x) (h' : Spans w B m y) (hn : n < 274877906944) (hm : m < 274877906944)
    (hc0 : w.cell? ⟨b, 0, none⟩ = some (.slice A n c)) (hc1 : w.cell? ⟨b, 1, none⟩ = some (.slice B m d)) :
    Calls Try.prog 75 #[.slice (some ⟨b, 0, none⟩) 2 2] w fun e w' => ∃ v, e = .returned v ∧ w'.ownsRow w.heap.size 52 2 v (n + m) (spanCells (x ++ y)) ∧ Below w.heap.size w w' := by
  obtain ⟨i0, hi, hz0, hz1, hz2⟩ := info_parts info59
  have HX := Lib.hid h
  have HY := Lib.hid h'
  clear h h'
  go_enter Try.func75, Try.ntmps75
  go_wp2_with fail
  go_loop [3, 11] (fun s j => (j = .int .i64 ((0 : Nat) : Int) ∧ s = .int .i64 ((0 : Nat) : Int)) ∨ (j = .int .i64 ((1 : Nat) : Int) ∧ s = .int .i64 (n : Int)) ∨ (j = .int .i64 ((2 : Nat) : Int) ∧ s = .int .i64 ((n + m : Nat) : Int))) (fun _ j => 2 - (intOf j).toNat)
  case atStart => exact .inl ⟨rfl, rfl⟩
  case round =>
  rcases hrel with ⟨rfl, rfl⟩ | ⟨rfl, rfl⟩ | ⟨rfl, rfl⟩
  · go_wp2_with fail
    go_round
    case rel => exact .inr (.inl ⟨rfl, by go_num⟩)
    case measure => simp [intOf]
  · go_wp2_with fail
    go_round
    case rel => exact .inr (.inr ⟨rfl, by go_num⟩)
    case measure => simp [intOf]
  · have HG := Lib.hid (GrowNil_any (n + m) (by omega) w)
    go_wp2_with fail
    refine HG.out.mono ?_
    rintro e w1 ⟨v, rfl, hown, hbel⟩
    have HO := Lib.hid hown
    have HB := Lib.hid hbel
    clear hown hbel
    go_wp2_with fail
    have hlen := Lib.hid (show (spanCells (x ++ y)).length = (n + m) * 2 by rw [spanCells_length, List.length_append, HX.out.len, HY.out.len])
    go_loopw [6, 27] (fun v j wr => (j = .int .i64 ((0 : Nat) : Int) ∧ wr.ownsRow w.heap.size 52 2 v 0 [] ∧ Below w.heap.size w wr) ∨ (j = .int .i64 ((1 : Nat) : Int) ∧ wr.ownsRow w.heap.size 52 2 v n (spanCells x) ∧ Below w.heap.size w wr) ∨ (j = .int .i64 ((2 : Nat) : Int) ∧ wr.ownsRow w.heap.size 52 2 v (n + m) (spanCells (x ++ y)) ∧ Below w.heap.size w wr)) (fun _ j _ => 2 - (intOf j).toNat)
    case atStart => exact .inl ⟨rfl, HO.out, HB.out⟩
    case round =>
    rcases hrel with ⟨rfl, ho, hb⟩ | ⟨rfl, ho, hb⟩ | ⟨rfl, ho, hb⟩
    · have hd0 := (hb.cell (lt_of_cell hc0)).trans hc0
      have HO2 := Lib.hid ho
      have HB2 := Lib.hid hb
      have HSX := Lib.hid (HX.out.keep fun p u hu => (hb.cell (World.block_lt_of_cell? w _ hu)).trans hu)
      obtain ⟨av, cv, hv⟩ := own_shape HO2.out
      subst hv
      clear ho hb
      go_wp2_with (at_builtin; go_must (refine wpList_append_sl _ rfl _ _ 26 rfl w.heap.size 52 i0 _ 2 16 Try.underlying26 hi hz0 hz1 hz2 rfl (by decide) HO2.out rfl HSX.out rfl (spans_one x) (by unfold maxLen; omega) (by omega) HB2.out.size ?_); intro v' w2 hown2 hg2)
      go_roundw
      case rel => exact .inr (.inl ⟨rfl, by simpa using hown2, HB2.out.grown hg2 HB2.out.size (fun k hk => (HO2.out.lt k hk).1)⟩)
      case measure => simp [intOf]
    · have hd1 := (hb.cell (lt_of_cell hc1)).trans hc1
      have HO2 := Lib.hid ho
      have HB2 := Lib.hid hb
      have HSY := Lib.hid (HY.out.keep fun p u hu => (hb.cell (World.block_lt_of_cell? w _ hu)).trans hu)
      obtain ⟨av, cv, hv⟩ := own_shape HO2.out
      subst hv
      clear ho hb
      go_wp2_with (at_builtin; go_must (refine wpList_append_sl _ rfl _ _ 26 rfl w.heap.size 52 i0 _ 2 16 Try.underlying26 hi hz0 hz1 hz2 rfl (by decide) HO2.out rfl HSY.out rfl (spans_one y) (by unfold maxLen; omega) (by omega) HB2.out.size ?_); intro v' w2 hown2 hg2)
      go_roundw
      case rel => exact .inr (.inr ⟨rfl, by rw [spanCells_append]; exact hown2, HB2.out.grown hg2 HB2.out.size (fun k hk => (HO2.out.lt k hk).1)⟩)
      case measure => simp [intOf]
    · have HO2 := Lib.hid ho
      have HB2 := Lib.hid hb
      obtain ⟨av, cv, hv⟩ := own_shape HO2.out
      subst hv
      clear ho hb
      go_wp2_with fail
      go_ret
      exact ⟨_, rfl, HO2.out, HB2.out⟩
end Go.Proofs.Ytpmhdjiacgckjaa
end
section
namespace Go.Proofs.Ytpmhdjiacgckjaa
open Go.RowKit
set_option linter.unusedVariables false

set_option maxRecDepth 100000 in
set_option maxHeartbeats 4000000 in
theorem Union_any (A B : Option Addr) (n c m d : Nat) (a b : List Sp) (w : World) (h : Spans w A n a) (h' : Spans w B m b) (hw : SpW a) (hw' : SpW b) (hn : n < 274877906944) (hm : m < 274877906944) :
    Calls Try.prog 58 #[.slice A n c, .slice B m d] w fun e w' => ∃ r, OwnRep w w.heap.size r e w' ∧ Rep r (fun x => Mem a x ∨ Mem b x) := by
  have HC := Lib.hid (Concat2_any w.heap.size A B n c m d a b (w.alloc (.cells #[.slice A n c, .slice B m d] 26)) (h.alloc _) (h'.alloc _) hn hm
    (by have hb := heap_alloc_new w (.cells #[.slice A n c, .slice B m d] 26); simp only [World.cell?, hb]; rfl)
    (by have hb := heap_alloc_new w (.cells #[.slice A n c, .slice B m d] 26); simp only [World.cell?, hb]; rfl))
  clear h h'
  go_enter Try.func58, Try.ntmps58
  go_wp2_with fail
  refine HC.out.mono ?_
  rintro e w1 ⟨v, rfl, hown, hbel⟩
  obtain ⟨av, cv, hv⟩ := own_shape hown
  subst hv
  have hb1 : Below w.heap.size w w1 := below_to ((Below.refl _ _).alloc (Nat.le_refl _) _) hbel
  have hsp : Spans w1 av (n + m) (a ++ b) := Sl.of_own hown
  have HN := Lib.hid (Norm_any av (n + m) cv (a ++ b) w1 hsp (fun p hp => by rcases List.mem_append.1 hp with hp | hp; exact hw p hp; exact hw' p hp) (by omega))
  have HB1 := Lib.hid hb1
  clear hown hbel hb1 hsp HC
  go_wp2_with fail
  refine HN.out.mono ?_
  rintro e w2 ⟨r, ⟨v, rfl, hv, ho, hb⟩, hr, hrl⟩
  have HO := Lib.hid (own_base ho HB1.out.size)
  have HB := Lib.hid (below_to HB1.out hb)
  have HR := Lib.hid hr
  have HV := Lib.hid hv
  obtain ⟨av2, cv2, rfl⟩ := own_shape ho
  clear ho hb hr hv
  go_wp2_with fail
  go_ret
  refine ⟨r, ⟨_, rfl, HV.out, HO.out, HB.out⟩, HR.out.congr fun x => ?_⟩
  unfold Mem
  rw [InS_append]
  constructor
  · rintro ⟨h1, h2, h3 | h3⟩
    · exact .inl ⟨h1, h2, h3⟩
    · exact .inr ⟨h1, h2, h3⟩
  · rintro (⟨h1, h2, h3⟩ | ⟨h1, h2, h3⟩)
    · exact ⟨h1, h2, .inl h3⟩
    · exact ⟨h1, h2, .inr h3⟩

set_option maxRecDepth 100000 in
set_option maxHeartbeats 4000000 in
theorem Within_any (A B : Option Addr) (n c m d : Nat) (a b r : List Sp) (w : World) (h : Spans w A n a) (h' : Spans w B m b) (hw : SpW a) (hw' : SpW b) (hn : n < 137438953472) (hm : m < 137438953472) (hr : Rep r (fun x => Mem a x ∧ ¬ Mem b x)) :
    Gives Try.prog 23 #[.slice A n c, .slice B m d] w (.bool (decide (r = []))) := by
  have HM := Lib.hid (Minus_any A B n c m d a b w h h' hw hw' hn hm)
  have HR := Lib.hid hr
  clear h h' hr
  unfold Gives
  go_enter Try.func23, Try.ntmps23
  go_wp2_with fail
  refine HM.out.mono ?_
  rintro e w1 ⟨r', ho, hr', hl⟩
  obtain rfl : r' = r := Rep.unique hr' HR.out (fun _ => Iff.rfl)
  obtain ⟨A1, c1, rfl, hc1, hm1, hsp, hb⟩ := of_ownList ho
  have HB := Lib.hid hb
  clear ho hr' hsp hb
  rcases r' with _ | ⟨p, l⟩
  · go_wp2_with fail
    go_ret
    exact ⟨rfl, HB.out⟩
  · have hz : (((p :: l).length : Int) == 0) = false := by simp; omega
    generalize (p :: l).length = N at *
    go_wp2_with fail
    go_ret
    exact ⟨ret_bool (by simp), HB.out⟩

set_option maxRecDepth 100000 in
set_option maxHeartbeats 4000000 in
theorem Meets_any (A B : Option Addr) (n c m d : Nat) (a b r : List Sp) (w : World) (h : Spans w A n a) (h' : Spans w B m b) (hw : SpW a) (hw' : SpW b) (hn : n < 137438953472) (hm : m < 137438953472) (hr : Rep r (fun x => Mem a x ∧ Mem b x)) :
    Gives Try.prog 54 #[.slice A n c, .slice B m d] w (.bool (!decide (r = []))) := by
  have HM := Lib.hid (Meet_any A B n c m d a b w h h' hw hw' (by omega) (by omega))
  have HR := Lib.hid hr
  clear h h' hr
  unfold Gives
  go_enter Try.func54, Try.ntmps54
  go_wp2_with fail
  refine HM.out.mono ?_
  rintro e w1 ⟨r', ho, hr', hl⟩
  obtain rfl : r' = r := Rep.unique hr' HR.out (fun _ => Iff.rfl)
  obtain ⟨A1, c1, rfl, hc1, hm1, hsp, hb⟩ := of_ownList ho
  have HB := Lib.hid hb
  clear ho hr' hsp hb
  rcases r' with _ | ⟨p, l⟩
  · go_wp2_with fail
    go_ret
    exact ⟨rfl, HB.out⟩
  · have hz : 0 < (p :: l).length := by simp
    generalize (p :: l).length = N at *
    go_wp2_with fail
    go_ret
    exact ⟨ret_bool (by simp), HB.out⟩

/-- spans that are moved -/
def shf (d : Int) (l : List Sp) : List Sp := l.map fun p => (p.1 + d, p.2 + d)
theorem shf_length (d : Int) (l : List Sp) : (shf d l).length = l.length := by simp [shf]
theorem shf_InS (d : Int) (l : List Sp) (x : Int) : InS (shf d l) x ↔ InS l (x - d) := by
  induction l with
  | nil => simp [shf, InS]
  | cons p l ih =>
    have e : shf d (p :: l) = (p.1 + d, p.2 + d) :: shf d l := rfl
    rw [e]
    simp only [InS, ih]
    constructor
    · rintro (h | h)
      · exact .inl ⟨by omega, by omega⟩
      · exact .inr h
    · rintro (h | h)
      · exact .inl ⟨by omega, by omega⟩
      · exact .inr h
theorem shf_rep {d : Int} {l s : List Sp} {S : Int → Prop} (hl : Rep l S) (hs : Rep s (Mem (shf d l))) : Rep s (fun x => -1073741824 ≤ x ∧ x ≤ 1073741824 ∧ S (x - d)) :=
  hs.congr fun x => by unfold Mem; rw [shf_InS, hl.2]
theorem shf_spw {d : Int} {l : List Sp} (hl : Plain l) (hd : -2147483648 ≤ d ∧ d ≤ 2147483648) : SpW (shf d l) := by
  intro p hp
  obtain ⟨q, hq, rfl⟩ := List.mem_map.1 hp
  have := PlainF.spw hl (Int.le_refl _) q hq
  simp only; omega
theorem shf_take (d : Int) (l : List Sp) (k : Nat) (p : Sp) (h : l[k]? = some p) : shf d (l.take (k + 1)) = shf d (l.take k) ++ [(p.1 + d, p.2 + d)] := by
  rw [take_snoc? h]; simp [shf]
/-- a list of the call's own, or nil where there is nothing -/
theorem ownList_of_rep {w w' : World} {base : Nat} {r : List Sp} {e : Ending} (h : OwnRep w base r e w') : OwnList w base r e w' := by
  obtain ⟨v, he, _, ho, hb⟩ := h
  exact ⟨v, he, ho, hb⟩

set_option maxRecDepth 100000 in
set_option maxHeartbeats 8000000 in
theorem Move_any (A : Option Addr) (n c : Nat) (l : List Sp) (d : Int) (w : World) (h : Spans w A n l) (hw : SpW l) (hn : n < 137438953472) :
    Calls Try.prog 32 #[.slice A n c, .int .i64 d] w fun e w' => ∃ r, OwnList w w.heap.size r e w' ∧ Rep r (fun x => -1073741824 ≤ x ∧ x ≤ 1073741824 ∧ Mem l (x - d)) := by
  by_cases hd : d < -2147483648 ∨ 2147483648 < d
  · have hnil : Rep [] (fun x => -1073741824 ≤ x ∧ x ≤ 1073741824 ∧ Mem l (x - d)) := ⟨trivial, fun x => by
      simp only [InS, Mem, false_iff]; omega⟩
    have HNIL := Lib.hid hnil
    clear hnil
    rcases hd with hd | hd
    · go_enter Try.func32, Try.ntmps32
      go_wp2_with fail
      go_ret
      exact ⟨[], ⟨_, rfl, World.ownsRow_nil _ _ _ _, Below.refl _ _⟩, HNIL.out⟩
    · have hd2 : ¬ d < -2147483648 := by omega
      go_enter Try.func32, Try.ntmps32
      go_wp2_with fail
      go_ret
      exact ⟨[], ⟨_, rfl, World.ownsRow_nil _ _ _ _, Below.refl _ _⟩, HNIL.out⟩
  have hd1 : -2147483648 ≤ d := by omega
  have hd2 : d ≤ 2147483648 := by omega
  clear hd
  have HN := Lib.hid (Norm_any A n c l w h hw (by omega))
  clear h
  go_enter Try.func32, Try.ntmps32
  go_wp2_with fail
  refine HN.out.mono ?_
  rintro e w1 ⟨r, ho, hr, hrl⟩
  obtain ⟨g1, c1, rfl, hg1, hc1, hm1, hrow1, hb1⟩ := ho.shape
  have HRow1 := Lib.hid hrow1
  have HB1 := Lib.hid hb1
  have HR := Lib.hid hr
  clear ho hrow1 hb1 hr HN
  go_wp2_with fail
  go_loopw [17] (fun i wr => ∃ k : Nat, k ≤ r.length ∧ i = .int .i64 k ∧ wr.ownsRow w.heap.size 52 2 (.slice (some ⟨g1, 0, none⟩) r.length c1) r.length (spanCells (shf d (r.take k) ++ r.drop k)) ∧ Below w.heap.size w wr) (fun i _ => r.length - (intOf i).toNat)
  case atStart => exact ⟨0, Nat.zero_le _, rfl, by simpa [shf] using HRow1.out, HB1.out⟩
  case round =>
  obtain ⟨k, hk, rfl, hown, hbel⟩ := hrel
  have HO := Lib.hid hown
  have HB := Lib.hid hbel
  clear hown hbel
  by_cases hlt : k < r.length
  · obtain ⟨x, hx⟩ : ∃ x, r[k]? = some x := ⟨_, List.getElem?_eq_getElem hlt⟩
    have hxb := PlainF.spw HR.out.1 (Int.le_refl _) x (List.mem_of_getElem? hx)
    have hl1 : (shf d (r.take k)).length = k := by rw [shf_length, List.length_take]; omega
    have hat : (shf d (r.take k) ++ r.drop k)[k]? = some x := by
      rw [List.getElem?_append_right (by omega), hl1, Nat.sub_self, List.getElem?_drop, Nat.add_zero, hx]
    have hcx := spanCells_at _ _ _ hat
    have hset : Hid (((spanCells (shf d (r.take k) ++ r.drop k)).set (k * 2) (.int .i64 (x.1 + d))).set (k * 2 + 1) (.int .i64 (x.2 + d)) = spanCells (shf d (r.take (k + 1)) ++ r.drop (k + 1))) := by
      unfold Hid
      rw [shf_take d r k x hx, drop_cons? hx, List.append_assoc, spanCells_append, spanCells_append (shf d (r.take k))]
      have hl2 : (spanCells (shf d (r.take k))).length = k * 2 := by rw [spanCells_length, hl1]
      rw [List.set_append_right _ _ (by omega), List.set_append_right _ _ (by omega), hl2, Nat.sub_self, show k * 2 + 1 - k * 2 = 1 by omega]
      simp [spanCells]
    have hlt1 : g1 < wr.heap.size := (HO.out.lt g1 rfl).2
    have hd3 : wr.cell? ⟨g1, k * 2, none⟩ = some (.int .i64 x.1) := by rw [HO.out.cellAt _ (by omega)]; exact hcx.1
    have hd4 : wr.cell? ⟨g1, k * 2 + 1, none⟩ = some (.int .i64 x.2) := by rw [HO.out.cellAt _ (by omega)]; exact hcx.2
    have hf1 := HO.out.frozenAt (k * 2)
    have hf2 := HO.out.frozenAt (k * 2 + 1)
    have HST := Lib.hid ((HO.out.stored (k * 2) (.int .i64 (x.1 + d))).1.stored (k * 2 + 1) (.int .i64 (x.2 + d))).1
    obtain ⟨x1, x2⟩ := x
    simp only at hxb hd3 hd4 HST hset
    clear hcx hx hat
    go_wp2_with fail
    go_roundw
    case rel => exact ⟨k + 1, by omega, by go_num, hset.out ▸ HST.out, (HB.out.setCell hg1 _).setCell hg1 _⟩
    case measure => simp [intOf]; omega
  · have hdk : decide (k < r.length) = false := by simpa using hlt
    obtain rfl : k = r.length := by omega
    rw [List.take_length, List.drop_length, List.append_nil] at HO
    have hsp : Spans wr (some ⟨g1, 0, none⟩) r.length (shf d r) := Sl.of_own HO.out
    have HN := Lib.hid (Norm_any (some ⟨g1, 0, none⟩) r.length c1 (shf d r) wr hsp (shf_spw HR.out.1 ⟨hd1, hd2⟩) (by omega))
    clear hsp
    go_wp2_with fail
    refine HN.out.mono ?_
    rintro e w2 ⟨s, ⟨v, rfl, hv, ho, hb⟩, hs, hsl⟩
    have HO2 := Lib.hid (own_base ho HB.out.size)
    have HB2 := Lib.hid (below_to HB.out hb)
    have HS := Lib.hid hs
    obtain ⟨av2, cv2, rfl⟩ := own_shape ho
    clear ho hb hs hv
    go_wp2_with fail
    go_ret
    exact ⟨s, ⟨_, rfl, HO2.out, HB2.out⟩, shf_rep HR.out HS.out⟩

end Go.Proofs.Ytpmhdjiacgckjaa
end
section
namespace Go.Proofs.Ytpmhdjiacgckjaa
open Go.RowKit
set_option linter.unusedVariables false

theorem i64_bd {z : Int} (h : (Lit.int .i64 z).wf = true) : -9223372036854775808 ≤ z ∧ z ≤ 9223372036854775807 := by
  simpa [Lit.wf, IntKind.min, IntKind.signed, IntKind.bits] using h
/-- a call that returns a slice that reads as r -/
def RetL (w0 : World) (r : List Sp) (F : World → Prop) (e : Ending) (w' : World) : Prop := ∃ A c, e = .returned (.slice A r.length c) ∧ Hid (St w0 w' (fun W => Lst A r W ∧ F W))
theorem retL_own {w0 w w' : World} {r : List Sp} {F : World → Prop} {e : Ending} (hK : Hid (St w0 w F)) (hp : Plain r) (ho : OwnList w w.heap.size r e w') : RetL w0 r F e w' := by
  obtain ⟨A1, c1, rfl, hc1, hm1, hsp, hb⟩ := of_ownList ho
  exact ⟨A1, c1, rfl, Lib.hid (hK.out.add hb (hp.lst hsp))⟩
theorem retL_new {w0 w w' : World} {r : List Sp} {F : World → Prop} {e : Ending} (hK : Hid (St w0 w F)) (hp : Plain r) (ho : NewSpans w r e w') : RetL w0 r F e w' := by
  obtain ⟨A1, n1, c1, rfl, hsp, hc, hm, hb⟩ := ho
  have := hsp.len
  subst this
  exact ⟨A1, c1, rfl, Lib.hid (hK.out.add hb (hp.lst hsp))⟩

section
variable {w0 w : World} {F : World → Prop} {A B : Option Addr} {a b r : List Sp}
theorem Norm_st (hK : Hid (St w0 w F)) (ha : ∀ W, F W → Lst A a W) (c : Nat) (hr : Hid (Rep r (Mem a))) : Calls Try.prog 45 #[.slice A a.length c] w (RetL w0 r F) := by
  have h1 := ha w hK.out.now
  refine (Norm_any A _ c a w h1.sp h1.wd (by have := h1.len; omega)).mono ?_
  rintro e w1 ⟨r', ho, hr', _⟩
  obtain rfl := Rep.unique hr' hr.out (fun _ => Iff.rfl)
  exact retL_own hK hr'.1 (ownList_of_rep ho)
theorem Meet_st (hK : Hid (St w0 w F)) (ha : ∀ W, F W → Lst A a W) (hb : ∀ W, F W → Lst B b W) (c d : Nat) (hr : Hid (Rep r (fun x => Mem a x ∧ Mem b x))) : Calls Try.prog 30 #[.slice A a.length c, .slice B b.length d] w (RetL w0 r F) := by
  have h1 := ha w hK.out.now
  have h2 := hb w hK.out.now
  refine (Meet_any A B _ c _ d a b w h1.sp h2.sp h1.wd h2.wd (by have := h1.len; omega) (by have := h2.len; omega)).mono ?_
  rintro e w1 ⟨r', ho, hr', _⟩
  obtain rfl := Rep.unique hr' hr.out (fun _ => Iff.rfl)
  exact retL_own hK hr'.1 ho
theorem Minus_st (hK : Hid (St w0 w F)) (ha : ∀ W, F W → Lst A a W) (hb : ∀ W, F W → Lst B b W) (c d : Nat) (hr : Hid (Rep r (fun x => Mem a x ∧ ¬ Mem b x))) : Calls Try.prog 25 #[.slice A a.length c, .slice B b.length d] w (RetL w0 r F) := by
  have h1 := ha w hK.out.now
  have h2 := hb w hK.out.now
  refine (Minus_any A B _ c _ d a b w h1.sp h2.sp h1.wd h2.wd (by have := h1.len; omega) (by have := h2.len; omega)).mono ?_
  rintro e w1 ⟨r', ho, hr', _⟩
  obtain rfl := Rep.unique hr' hr.out (fun _ => Iff.rfl)
  exact retL_own hK hr'.1 ho
theorem Union_st (hK : Hid (St w0 w F)) (ha : ∀ W, F W → Lst A a W) (hb : ∀ W, F W → Lst B b W) (c d : Nat) (hr : Hid (Rep r (fun x => Mem a x ∨ Mem b x))) : Calls Try.prog 58 #[.slice A a.length c, .slice B b.length d] w (RetL w0 r F) := by
  have h1 := ha w hK.out.now
  have h2 := hb w hK.out.now
  refine (Union_any A B _ c _ d a b w h1.sp h2.sp h1.wd h2.wd (by have := h1.len; omega) (by have := h2.len; omega)).mono ?_
  rintro e w1 ⟨r', ho, hr'⟩
  obtain rfl := Rep.unique hr' hr.out (fun _ => Iff.rfl)
  exact retL_own hK hr'.1 (ownList_of_rep ho)
theorem Move_st (hK : Hid (St w0 w F)) (ha : ∀ W, F W → Lst A a W) (c : Nat) {d : Int} (hr : Hid (Rep r (fun x => -1073741824 ≤ x ∧ x ≤ 1073741824 ∧ Mem a (x - d)))) : Calls Try.prog 32 #[.slice A a.length c, .int .i64 d] w (RetL w0 r F) := by
  have h1 := ha w hK.out.now
  refine (Move_any A _ c a d w h1.sp h1.wd h1.len).mono ?_
  rintro e w1 ⟨r', ho, hr'⟩
  obtain rfl := Rep.unique hr' hr.out (fun _ => Iff.rfl)
  exact retL_own hK hr'.1 ho
theorem rNorm_st (hK : Hid (St w0 w F)) (ha : ∀ W, F W → Lst A a W) (hn : a.length < 1048576) (c : Nat) (hr : Hid (Rep r (Mem a))) : Calls Try.prog 49 #[.slice A a.length c] w (RetL w0 r F) := by
  have h1 := ha w hK.out.now
  refine (rNorm_any A _ c a w h1.sp h1.wd hn).mono ?_
  rintro e w1 ⟨r', ho, hr', _⟩
  obtain rfl := Rep.unique hr' hr.out (fun _ => Iff.rfl)
  exact retL_new hK hr'.1 ho
theorem madeB_0 (a b : List Sp) (x : Int) : madeB 0 a b x = true ↔ (Mem a x ∨ Mem b x) := by
  unfold madeB inHow; rw [if_neg (by decide), if_neg (by decide), Bool.or_eq_true, hasB_iff, hasB_iff]
theorem madeB_1 (a b : List Sp) (x : Int) : madeB 1 a b x = true ↔ (Mem a x ∧ Mem b x) := by
  unfold madeB inHow; rw [if_pos rfl, Bool.and_eq_true, hasB_iff, hasB_iff]
theorem madeB_2 (a b : List Sp) (x : Int) : madeB 2 a b x = true ↔ (Mem a x ∧ ¬ Mem b x) := by
  unfold madeB inHow; rw [if_neg (by decide), if_pos rfl, Bool.and_eq_true, hasB_iff, Bool.not_eq_true', ← Bool.not_eq_true, hasB_iff]
theorem rBoth_st (hK : Hid (St w0 w F)) (ha : ∀ W, F W → Lst A a W) (hb : ∀ W, F W → Lst B b W) (hn : a.length < 1048576) (hm : b.length < 1048576) (c d : Nat) (hr : Hid (Rep r (fun x => Mem a x ∨ Mem b x))) : Calls Try.prog 20 #[.slice A a.length c, .slice B b.length d, .int .i64 0] w (RetL w0 r F) := by
  have h1 := ha w hK.out.now
  have h2 := hb w hK.out.now
  refine (Make0_any A B _ c _ d a b w h1.sp h2.sp h1.wd h2.wd hn hm).mono ?_
  rintro e w1 ⟨r', ho, hr', _⟩
  obtain rfl := Rep.unique hr' hr.out (madeB_0 a b)
  exact retL_new hK hr'.1 ho
theorem rMeet_st (hK : Hid (St w0 w F)) (ha : ∀ W, F W → Lst A a W) (hb : ∀ W, F W → Lst B b W) (hn : a.length < 1048576) (hm : b.length < 1048576) (c d : Nat) (hr : Hid (Rep r (fun x => Mem a x ∧ Mem b x))) : Calls Try.prog 20 #[.slice A a.length c, .slice B b.length d, .int .i64 1] w (RetL w0 r F) := by
  have h1 := ha w hK.out.now
  have h2 := hb w hK.out.now
  refine (Make1_any A B _ c _ d a b w h1.sp h2.sp h1.wd h2.wd hn hm).mono ?_
  rintro e w1 ⟨r', ho, hr', _⟩
  obtain rfl := Rep.unique hr' hr.out (madeB_1 a b)
  exact retL_new hK hr'.1 ho
theorem rLess_st (hK : Hid (St w0 w F)) (ha : ∀ W, F W → Lst A a W) (hb : ∀ W, F W → Lst B b W) (hn : a.length < 1048576) (hm : b.length < 1048576) (c d : Nat) (hr : Hid (Rep r (fun x => Mem a x ∧ ¬ Mem b x))) : Calls Try.prog 20 #[.slice A a.length c, .slice B b.length d, .int .i64 2] w (RetL w0 r F) := by
  have h1 := ha w hK.out.now
  have h2 := hb w hK.out.now
  refine (Make2_any A B _ c _ d a b w h1.sp h2.sp h1.wd h2.wd hn hm).mono ?_
  rintro e w1 ⟨r', ho, hr', _⟩
  obtain rfl := Rep.unique hr' hr.out (madeB_2 a b)
  exact retL_new hK hr'.1 ho
theorem Same_st (hK : Hid (St w0 w F)) (ha : ∀ W, F W → Lst A a W) (hb : ∀ W, F W → Lst B b W) (c d : Nat) {v : Bool} (hv : decide (a = b) = v) : Calls Try.prog 21 #[.slice A a.length c, .slice B b.length d] w (RetV w0 (.bool v) F) := by
  have h1 := ha w hK.out.now
  have h2 := hb w hK.out.now
  subst hv
  exact retV_drawn hK (Same_any A B _ c _ d a b w h1.sp h2.sp (by have := h1.len; omega) (by have := h2.len; omega))
theorem Count_st (hK : Hid (St w0 w F)) (ha : ∀ W, F W → Lst A a W) (c : Nat) (hr : Hid (Rep r (Mem a))) : Calls Try.prog 67 #[.slice A a.length c] w (RetV w0 (.int .i64 (cnt r)) F) := by
  have h1 := ha w hK.out.now
  exact retV_gives hK (Count_any A _ c a r w h1.sp h1.wd h1.len hr.out)
theorem Has_st (hK : Hid (St w0 w F)) (ha : ∀ W, F W → Lst A a W) (c : Nat) (x : Int) {v : Bool} (hv : hasB a x = v) : Calls Try.prog 24 #[.slice A a.length c, .int .i64 x] w (RetV w0 (.bool v) F) := by
  have h1 := ha w hK.out.now
  subst hv
  exact retV_gives hK (Has_any A _ c a x w h1.sp (by have := h1.len; omega))
theorem rHas_st (hK : Hid (St w0 w F)) (ha : ∀ W, F W → Lst A a W) (c : Nat) (x : Int) {v : Bool} (hv : hasB a x = v) : Calls Try.prog 15 #[.slice A a.length c, .int .i64 x] w (RetV w0 (.bool v) F) := by
  have h1 := ha w hK.out.now
  subst hv
  exact Calls.mono (rHas_any A _ c a x w h1.sp (by have := h1.len; omega)) fun e w' ⟨he, hw⟩ => ⟨he, hw ▸ hK⟩
theorem Check_st (hK : Hid (St w0 w F)) (ha : ∀ W, F W → Lst A a W) (c : Nat) {v : Bool} (hv : plainB (-1073741826) a = v) : Calls Try.prog 22 #[.slice A a.length c] w (RetV w0 (.bool v) F) := by
  have h1 := ha w hK.out.now
  subst hv
  exact retV_gives hK (Check_any A _ c a w h1.sp (by have := h1.len; omega))
theorem Within_st (hK : Hid (St w0 w F)) (ha : ∀ W, F W → Lst A a W) (hb : ∀ W, F W → Lst B b W) (c d : Nat) (hr : Hid (Rep r (fun x => Mem a x ∧ ¬ Mem b x))) {v : Bool} (hv : decide (r = []) = v) : Calls Try.prog 23 #[.slice A a.length c, .slice B b.length d] w (RetV w0 (.bool v) F) := by
  have h1 := ha w hK.out.now
  have h2 := hb w hK.out.now
  subst hv
  exact retV_gives hK (Within_any A B _ c _ d a b r w h1.sp h2.sp h1.wd h2.wd h1.len h2.len hr.out)
theorem Meets_st (hK : Hid (St w0 w F)) (ha : ∀ W, F W → Lst A a W) (hb : ∀ W, F W → Lst B b W) (c d : Nat) (hr : Hid (Rep r (fun x => Mem a x ∧ Mem b x))) {v : Bool} (hv : (!decide (r = [])) = v) : Calls Try.prog 54 #[.slice A a.length c, .slice B b.length d] w (RetV w0 (.bool v) F) := by
  have h1 := ha w hK.out.now
  have h2 := hb w hK.out.now
  subst hv
  exact retV_gives hK (Meets_any A B _ c _ d a b r w h1.sp h2.sp h1.wd h2.wd h1.len h2.len hr.out)
theorem Last_st (hK : Hid (St w0 w F)) (ha : ∀ W, F W → Lst A a W) (c : Nat) (hr : Hid (Rep r (Mem a))) {x : Int} {v : Bool} (hx : optD (nthS r (cnt r - 1)) = x) (hv : optB (nthS r (cnt r - 1)) = v) : Calls Try.prog 35 #[.slice A a.length c] w (RetV w0 (.tuple #[.int .i64 x, .bool v]) F) := by
  have h1 := ha w hK.out.now
  subst hx; subst hv
  exact retV_gives hK (Last_any A _ c a r w h1.sp h1.wd h1.len hr.out)
theorem rCount_st (hK : Hid (St w0 w F)) (ha : ∀ W, F W → Lst A a W) (hn : a.length < 1048576) (c : Nat) (hr : Hid (Rep r (Mem a))) : Calls Try.prog 27 #[.slice A a.length c] w (RetV w0 (.int .i64 (cnt r)) F) := by
  have h1 := ha w hK.out.now
  exact retV_gives hK (rCount_any A _ c a r w h1.sp h1.wd hn hr.out)
end

/-- a list of one span that is written out -/
theorem lst_lit {w : World} (p : Sp) (hp : SpW [p]) : ∀ W, Below (w.alloc (.cells #[.int .i64 p.1, .int .i64 p.2] 52)).heap.size (w.alloc (.cells #[.int .i64 p.1, .int .i64 p.2] 52)) W → Lst (some ⟨w.heap.size, 0, none⟩) [p] W :=
  fun W hW => ⟨(spans_lit1 w p _).below hW, hp, by simp⟩
theorem St.lit {w0 w : World} {F : World → Prop} (hK : Hid (St w0 w F)) (p : Sp) (hp : SpW [p]) : Hid (St w0 (w.alloc (.cells #[.int .i64 p.1, .int .i64 p.2] 52)) (fun W => Lst (some ⟨w.heap.size, 0, none⟩) [p] W ∧ F W)) :=
  Lib.hid (hK.out.add ((Below.refl _ _).alloc (Nat.le_refl _) _) (lst_lit p hp))
theorem nthI_last {r : List Sp} (hr : Plain r) : nthI r (cnt r - 1) = nthS r (cnt r - 1) := by
  unfold nthI
  split
  · rcases PlainF.cnt_pos hr with rfl | h
    · rfl
    · omega
  · rfl
theorem asks_ex {r : List Sp} (hr : Plain r) : ∃ x0 x1 s, Hid (optD (nthS r 0) = x0) ∧ Hid (optB (nthS r 0) = s) ∧ Hid (optD (nthS r (cnt r - 1)) = x1) ∧ Hid (optB (nthS r (cnt r - 1)) = s) ∧ Hid (decide (0 < cnt r) = s) := by
  refine ⟨_, _, optB (nthS r 0), rfl, rfl, rfl, ?_, ?_⟩
  · rcases last_cases r with rfl | ⟨m, q, rfl⟩
    · rfl
    · unfold Hid
      rw [nthS_last hr]
      cases m with
      | nil => rw [List.nil_append] at *; rw [nthS_first hr]; rfl
      | cons p m => rw [List.cons_append] at *; rw [nthS_first hr]; rfl
  · rcases r with _ | ⟨p, l⟩
    · rfl
    · unfold Hid
      rw [nthS_first hr]
      rcases PlainF.cnt_pos hr with h | h
      · cases h
      · simp [optB, h]
/-- a new list, its block the call's own -/
def RetLN (w0 w : World) (r : List Sp) (F : World → Prop) (e : Ending) (w' : World) : Prop := ∃ A c, e = .returned (.slice A r.length c) ∧ Hid (w'.ownsRow w.heap.size 52 2 (.slice A r.length c) r.length (spanCells r)) ∧ Hid (St w0 w' (fun W => Lst A r W ∧ F W)) ∧ Hid (Below w.heap.size w w')
theorem RetLN.retL {w0 w : World} {r : List Sp} {F : World → Prop} {e : Ending} {w' : World} (h : RetLN w0 w r F e w') : RetL w0 r F e w' := by
  obtain ⟨A, c, he, _, hK, _⟩ := h
  exact ⟨A, c, he, hK⟩
theorem retLN_own {w0 w w' : World} {r : List Sp} {F : World → Prop} {e : Ending} (hK : Hid (St w0 w F)) (hp : Plain r) (ho : OwnList w w.heap.size r e w') : RetLN w0 w r F e w' := by
  obtain ⟨v, rfl, hown, hb⟩ := ho
  obtain ⟨A1, c1, rfl⟩ := own_shape hown
  exact ⟨A1, c1, rfl, Lib.hid hown, Lib.hid (hK.out.add hb (hp.lst (Sl.of_own hown))), Lib.hid hb⟩
theorem retLN_nil {w0 w : World} {F : World → Prop} {w1 : World} (hK : Hid (St w0 w1 F)) (hb : Below w.heap.size w w1) : RetLN w0 w [] F (.returned (.slice none 0 0)) w1 :=
  ⟨none, 0, rfl, Lib.hid ⟨rfl, .inl ⟨rfl, rfl⟩⟩, Lib.hid (hK.out.weaken fun W h => ⟨⟨Sl.nil_ _ _ _, fun p hp => (by cases hp), by simp⟩, h⟩), Lib.hid hb⟩
theorem RetLN.later {w0 w w2 : World} {r : List Sp} {F : World → Prop} {e : Ending} {w' : World} (h : RetLN w0 w2 r F e w') (hb : Below w.heap.size w w2) : RetLN w0 w r F e w' := by
  obtain ⟨A, c, he, hO, hK, hB⟩ := h
  refine ⟨A, c, he, Lib.hid ?_, hK, Lib.hid (below_to hb hB.out)⟩
  refine ⟨hO.out.1, ?_⟩
  rcases hO.out.2 with h | ⟨g, cap, cur, h1, h2, h3⟩
  · exact .inl h
  · exact .inr ⟨g, cap, cur, h1, Nat.le_trans hb.size h2, h3⟩
/-- out of a walk that began at the call -/
theorem RetLN.fin {w0 w w2 : World} {r : List Sp} {F0 F G : World → Prop} {e : Ending} {w' : World} (hK : Hid (St w0 w F0)) (hb : Below w.heap.size w w2) (h : RetLN w w2 r F e w') (hG : ∀ W, F W → G W) : RetLN w0 w r G e w' := by
  obtain ⟨A, c, he, hO, hK1, hB⟩ := h.later hb
  exact ⟨A, c, he, hO, Lib.hid ⟨fun W hW => ⟨(hK1.out.1 W hW).1, hG _ (hK1.out.1 W hW).2⟩, below_to hK.out.2 hB.out⟩, hB⟩
theorem Norm_stN {w0 w : World} {F : World → Prop} {A : Option Addr} {a r : List Sp} (hK : Hid (St w0 w F)) (ha : ∀ W, F W → Lst A a W) (c : Nat) (hr : Hid (Rep r (Mem a))) : Calls Try.prog 45 #[.slice A a.length c] w (RetLN w0 w r F) := by
  have h1 := ha w hK.out.now
  refine (Norm_any A _ c a w h1.sp h1.wd (by have := h1.len; omega)).mono ?_
  rintro e w1 ⟨r', ho, hr', _⟩
  obtain rfl := Rep.unique hr' hr.out (fun _ => Iff.rfl)
  exact retLN_own hK hr'.1 (ownList_of_rep ho)
theorem Union_stN {w0 w : World} {F : World → Prop} {A B : Option Addr} {a b r : List Sp} (hK : Hid (St w0 w F)) (ha : ∀ W, F W → Lst A a W) (hb : ∀ W, F W → Lst B b W) (c d : Nat) (hr : Hid (Rep r (fun x => Mem a x ∨ Mem b x))) : Calls Try.prog 58 #[.slice A a.length c, .slice B b.length d] w (RetLN w0 w r F) := by
  have h1 := ha w hK.out.now
  have h2 := hb w hK.out.now
  refine (Union_any A B _ c _ d a b w h1.sp h2.sp h1.wd h2.wd (by have := h1.len; omega) (by have := h2.len; omega)).mono ?_
  rintro e w1 ⟨r', ho, hr'⟩
  obtain rfl := Rep.unique hr' hr.out (fun _ => Iff.rfl)
  exact retLN_own hK hr'.1 (ownList_of_rep ho)
end Go.Proofs.Ytpmhdjiacgckjaa
end
