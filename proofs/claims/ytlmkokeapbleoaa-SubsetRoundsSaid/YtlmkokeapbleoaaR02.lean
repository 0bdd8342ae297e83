/- The state of a walk: what is known of the slices at hand stays known; every set of numbers has a plain list; a set's number at a place. No function of the program in sight. Condition: none. Plain facts: how a list of boxes is found, place by place, and what it tells: a window is in just one of them if its value is wanted, else in none. No program in sight. Condition: none. -/
import Derived.Test.YtlmkokeapbleoaaR01
set_option maxRecDepth 100000
set_option maxHeartbeats 64000000
set_option linter.unusedVariables false
set_option linter.unusedSimpArgs false
section
namespace Go.Proofs.Ytlmkokeapbleoaa
open Go.RowKit
structure Lst (A : Option Addr) (l : List Sp) (W : World) : Prop where
  sp : Spans W A l.length l
  wd : SpW l
  len : l.length < 137438953472
theorem Lst.below {A : Option Addr} {l : List Sp} {w w' : World} (h : Lst A l w) (hb : Below w.heap.size w w') : Lst A l w' := ⟨h.sp.below hb, h.wd, h.len⟩
theorem PlainF.spw {a : Int} {l : List Sp} (h : PlainF a l) (ha : -1073741826 ≤ a) : ∀ p ∈ l, -1073741824 ≤ p.1 ∧ p.1 ≤ p.2 ∧ p.2 ≤ 1073741824 := by
  induction l generalizing a with
  | nil => intro p hp; cases hp
  | cons q l ih =>
    obtain ⟨h1, h2, h3, h4⟩ := h
    intro p hp
    rcases List.mem_cons.1 hp with rfl | hp
    · omega
    · exact ih h4 (by omega) p hp
theorem Plain.spw {l : List Sp} (h : Plain l) : SpW l := fun p hp => by have := PlainF.spw h (Int.le_refl _) p hp; omega
theorem PlainF.len_le {a : Int} {l : List Sp} (h : PlainF a l) (ha : a ≤ 1073741824) : 2 * (l.length : Int) ≤ 1073741824 - a := by
  induction l generalizing a with
  | nil => simp; omega
  | cons q l ih =>
    obtain ⟨h1, h2, h3, h4⟩ := h
    have := ih h4 h3
    simp; omega
theorem Plain.len_le {l : List Sp} (h : Plain l) : l.length ≤ 1073741825 := by have := PlainF.len_le h (by omega); omega
theorem Plain.lst {l : List Sp} (h : Plain l) {A : Option Addr} {w : World} (hs : Spans w A l.length l) : ∀ W, Below w.heap.size w W → Lst A l W :=
  fun W hW => ⟨hs.below hW, h.spw, by have := h.len_le; omega⟩
theorem last_cases (l : List Sp) : l = [] ∨ ∃ m q, l = m ++ [q] := by
  rcases List.eq_nil_or_concat l with h | ⟨m, q, h⟩
  · exact .inl h
  · exact .inr ⟨m, q, by simpa using h⟩
theorem rep_upto (S : Int → Prop) (N : Nat) (hN : N ≤ 2147483649) : ∃ r, Rep r (fun x => S x ∧ -1073741824 ≤ x ∧ x < -1073741824 + (N : Int)) := by
  induction N with
  | zero => exact ⟨[], trivial, fun x => by simp only [InS, false_iff]; omega⟩
  | succ N ih =>
    obtain ⟨r, hp, hr⟩ := ih (by omega)
    by_cases hy : S (-1073741824 + (N : Int))
    · rcases last_cases r with rfl | ⟨m, q, rfl⟩
      · refine ⟨[(-1073741824 + (N : Int), -1073741824 + (N : Int))], ⟨by simp only; omega, by simp, by simp only; omega, trivial⟩, fun x => ?_⟩
        have := hr x
        simp only [InS, or_false, false_iff] at this ⊢
        constructor
        · intro h
          obtain rfl : x = -1073741824 + (N : Int) := by omega
          exact ⟨hy, by omega, by omega⟩
        · rintro ⟨h1, h2, h3⟩
          by_cases e : x = -1073741824 + (N : Int)
          · omega
          · exact absurd ⟨h1, h2, by omega⟩ this
      · have hl := PlainF.last hp
        have hq : InS (m ++ [q]) q.2 := (InS_append _ _ _).2 (.inr (.inl ⟨by omega, by omega⟩))
        have hql := ((hr _).1 hq).2
        by_cases hj : q.2 + 1 = -1073741824 + (N : Int)
        · refine ⟨m ++ [(q.1, -1073741824 + (N : Int))], PlainF.snoc (PlainF.init hp) hl.1 hl.2.1 (by simp only; omega) (by simp only; omega), fun x => ?_⟩
          have hx := hr x
          rw [InS_append] at hx ⊢
          simp only [InS, or_false] at hx ⊢
          constructor
          · rintro (h | h)
            · have := hx.1 (.inl h); exact ⟨this.1, by omega, by omega⟩
            · by_cases e : x = -1073741824 + (N : Int)
              · subst e; exact ⟨hy, by omega, by omega⟩
              · have := hx.1 (.inr ⟨by omega, by omega⟩); exact ⟨this.1, by omega, by omega⟩
          · rintro ⟨h1, h2, h3⟩
            by_cases e : x = -1073741824 + (N : Int)
            · exact .inr ⟨by omega, by omega⟩
            · rcases hx.2 ⟨h1, h2, by omega⟩ with h | h
              · exact .inl h
              · exact .inr ⟨by omega, by omega⟩
        · refine ⟨(m ++ [q]) ++ [(-1073741824 + (N : Int), -1073741824 + (N : Int))], PlainF.snoc hp (by simp only; have := hp.low hq; omega) (fun p hp' => ?_) (by simp) (by simp only; omega), fun x => ?_⟩
          · simp only
            rcases List.mem_append.1 hp' with h | h
            · have := hl.2.1 p h; omega
            · simp at h; subst h; omega
          · have hx := hr x
            rw [InS_append (m ++ [q]), hx]
            simp only [InS, or_false]
            constructor
            · rintro (h | h)
              · exact ⟨h.1, by omega, by omega⟩
              · obtain rfl : x = -1073741824 + (N : Int) := by omega
                exact ⟨hy, by omega, by omega⟩
            · rintro ⟨h1, h2, h3⟩
              by_cases e : x = -1073741824 + (N : Int)
              · exact .inr ⟨by omega, by omega⟩
              · exact .inl ⟨h1, h2, by omega⟩
    · refine ⟨r, hp, fun x => ?_⟩
      rw [hr x]
      constructor
      · rintro ⟨h1, h2, h3⟩; exact ⟨h1, h2, by omega⟩
      · rintro ⟨h1, h2, h3⟩
        refine ⟨h1, h2, ?_⟩
        by_cases e : x = -1073741824 + (N : Int)
        · subst e; exact absurd h1 hy
        · omega
theorem rep_all (S : Int → Prop) (hS : ∀ x, S x → -1073741824 ≤ x ∧ x ≤ 1073741824) : ∃ r, Rep r S := by
  obtain ⟨r, hr⟩ := rep_upto S 2147483649 (by omega)
  exact ⟨r, hr.congr fun x => ⟨fun h => h.1, fun h => ⟨h, by have := hS x h; omega, by have := hS x h; omega⟩⟩⟩
theorem Mem.bound {l : List Sp} {x : Int} (h : Mem l x) : -1073741824 ≤ x ∧ x ≤ 1073741824 := ⟨h.1, h.2.1⟩
theorem rep_norm (a : List Sp) : ∃ r, Hid (Rep r (Mem a)) := rep_all _ fun _ h => Mem.bound h
theorem rep_meet (a b : List Sp) : ∃ r, Hid (Rep r (fun x => Mem a x ∧ Mem b x)) := rep_all _ fun _ h => Mem.bound h.1
theorem rep_minus (a b : List Sp) : ∃ r, Hid (Rep r (fun x => Mem a x ∧ ¬ Mem b x)) := rep_all _ fun _ h => Mem.bound h.1
theorem Rep.mem {r : List Sp} {S : Int → Prop} (h : Rep r S) (x : Int) : Mem r x ↔ S x := (h.1.mem x).trans (h.2 x)
theorem NInv.ex {l : List Sp} (hs : Srt l) (i : Nat) (hi : i ≤ l.length) : ∃ o, NInv l i o := by
  induction i with
  | zero => exact ⟨[], NInv.start l⟩
  | succ i ih =>
    obtain ⟨o, ho⟩ := ih (by omega)
    have hx : l[i]? = some l[i] := List.getElem?_eq_getElem (by omega)
    rcases last_cases o with rfl | ⟨m, q, rfl⟩
    · exact ⟨_, ho.push hs hx fun m q e => by simp at e⟩
    · by_cases hj : l[i].1 ≤ q.2 + 1
      · exact ⟨_, ho.merge hs hx hj⟩
      · refine ⟨_, ho.push hs hx fun m' q' e => ?_⟩
        have := List.append_inj_right' e rfl
        simp at this
        rw [← this]; omega
theorem Rep.len_le {l r : List Sp} (hr : Rep r (Mem l)) : r.length ≤ l.length := by
  have hp := List.mergeSort_perm (clips l) (fun p q => decide (p.1 ≤ q.1))
  have hw := List.pairwise_mergeSort (le := fun p q : Sp => decide (p.1 ≤ q.1)) (fun a b c h1 h2 => by simp at *; omega) (fun a b => by simp; omega) (clips l)
  have hs : Srt ((clips l).mergeSort (fun p q => decide (p.1 ≤ q.1))) := ⟨hw.imp (fun h => by simpa using h), fun p h => clips_mem (hp.mem_iff.1 h)⟩
  obtain ⟨o, ho⟩ := NInv.ex hs _ (Nat.le_refl _)
  obtain rfl := Rep.unique (ho.rep hp) hr (fun _ => Iff.rfl)
  have := ho.len
  rw [hp.length_eq] at this
  exact Nat.le_trans this (clips_length l)
def nthS : List Sp → Int → Option Int
  | [], _ => none
  | p :: l, i => if i < p.2 - p.1 + 1 then some (p.1 + i) else nthS l (i - (p.2 - p.1 + 1))
theorem PlainF.cnt_pos {a : Int} {l : List Sp} (h : PlainF a l) : l = [] ∨ 0 < cnt l := by
  cases l with
  | nil => exact .inl rfl
  | cons p l =>
    obtain ⟨h1, h2, h3, h4⟩ := h
    have := h4.cnt_le h3
    right; rw [cnt_cons]; omega
theorem nthS_first {a : Int} {p : Sp} {l : List Sp} (h : PlainF a (p :: l)) : nthS (p :: l) 0 = some p.1 := by
  obtain ⟨h1, h2, _⟩ := h
  simp only [nthS]; rw [if_pos (by omega)]; simp
theorem nthS_last {a : Int} {q : Sp} {l : List Sp} (h : PlainF a (l ++ [q])) : nthS (l ++ [q]) (cnt (l ++ [q]) - 1) = some q.2 := by
  induction l generalizing a with
  | nil =>
    obtain ⟨h1, h2, _⟩ := h
    simp only [List.nil_append, cnt_cons, cnt_nil, nthS]; rw [if_pos (by omega)]; congr 1; omega
  | cons p l ih =>
    obtain ⟨h1, h2, h3, h4⟩ := h
    have hp : 0 < cnt (l ++ [q]) := by
      rcases h4.cnt_pos with e | e
      · simp at e
      · exact e
    have := ih h4
    rw [List.cons_append, cnt_cons]
    simp only [nthS]
    rw [if_neg (by omega)]
    rw [← this]; congr 1; omega
theorem Plain.cnt_bd {l : List Sp} (h : Plain l) : 0 ≤ cnt l ∧ cnt l ≤ 2147483650 := by
  have := Plain.cnt_take h l.length
  rwa [List.take_length] at this
end Go.Proofs.Ytlmkokeapbleoaa
end
section
namespace Go.Proofs.Ytlmkokeapbleoaa
open Classical
noncomputable def plL (S : Int → Prop) : List Sp := if h : ∃ r, Rep r S then h.choose else []
theorem plL_rep {S : Int → Prop} (h : ∃ r, Rep r S) : Rep (plL S) S := by unfold plL; rw [dif_pos h]; exact h.choose_spec
structure Lv where
  g : List Sp
  val : Int → Int
  one : Bool
  top : Int
abbrev Row := List (List Sp)
def valS : List Lv → List Int → Int
  | l :: ls, x :: xs => l.val x + valS ls xs
  | _, _ => 0
def inG : List Lv → List Int → Prop
  | [], [] => True
  | l :: ls, x :: xs => InS l.g x ∧ inG ls xs
  | _, _ => False
def hit : Row → List Int → Prop
  | [], [] => True
  | s :: r, x :: xs => InS s x ∧ hit r xs
  | _, _ => False
noncomputable def cntR (rows : List Row) (xs : List Int) : Nat := (rows.filter fun r => decide (hit r xs)).length
def rowOk : List Lv → Row → Prop
  | [], [] => True
  | l :: ls, s :: r => (Plain s ∧ s ≠ [] ∧ ∀ x, InS s x → InS l.g x) ∧ rowOk ls r
  | _, _ => False
structure LvOk (l : Lv) : Prop where
  pl : Plain l.g
  ne : l.g ≠ []
  lo : ∀ x, InS l.g x → 0 ≤ l.val x
  hi : ∀ x, InS l.g x → l.val x ≤ l.top
noncomputable def unionL (a b : List Sp) : List Sp := plL fun x => InS a x ∨ InS b x
noncomputable def headUn (S : List Sp) : Row → Row
  | [] => []
  | h :: t => unionL h S :: t
noncomputable def mergeAt (n : Nat) (S : List Sp) (out : List Row) : List Row := out.take n ++ (out.drop n).map (headUn S)
theorem cntR_append (a b : List Row) (xs : List Int) : cntR (a ++ b) xs = cntR a xs + cntR b xs := by unfold cntR; rw [List.filter_append, List.length_append]
theorem cntR_map (S : List Sp) (a : List Row) (x : Int) (xs : List Int) : cntR (a.map (S :: ·)) (x :: xs) = if InS S x then cntR a xs else 0 := by
  unfold cntR
  induction a with
  | nil => simp
  | cons r a ih =>
    rw [List.map_cons, List.filter_cons, List.filter_cons]
    by_cases hS : InS S x
    · rw [if_pos hS] at ih ⊢
      have : (hit (S :: r) (x :: xs)) ↔ hit r xs := ⟨fun h => h.2, fun h => ⟨hS, h⟩⟩
      by_cases hr : hit r xs
      · rw [if_pos (decide_eq_true (this.2 hr)), if_pos (decide_eq_true hr), List.length_cons, List.length_cons, ih]
      · rw [if_neg (by simpa [this] using hr), if_neg (by simpa using hr), ih]
    · rw [if_neg hS] at ih ⊢
      have : ¬ hit (S :: r) (x :: xs) := fun h => hS h.1
      rw [if_neg (by simpa using this), ih]
theorem headUn_map (U S : List Sp) (a : List Row) : (a.map (U :: ·)).map (headUn S) = a.map (unionL U S :: ·) := by
  rw [List.map_map]; rfl
theorem mergeAt_eq (pre : List Row) (U S : List Sp) (last : List Row) : mergeAt pre.length S (pre ++ last.map (U :: ·)) = pre ++ last.map (unionL U S :: ·) := by
  unfold mergeAt
  rw [List.take_left, List.drop_left, headUn_map]
theorem rep_sub {l : List Sp} (h : Plain l) (S : Int → Prop) (hS : ∀ x, S x → InS l x) : ∃ r, Rep r S :=
  rep_all S fun x hx => ⟨h.low (hS x hx), PlainF.high h (hS x hx)⟩
theorem rep_nil {S : Int → Prop} (h : Rep [] S) (x : Int) : ¬ S x := fun hx => by have := (h.2 x).2 hx; cases this
theorem rep_ne {r : List Sp} {S : Int → Prop} (h : Rep r S) {x : Int} (hx : S x) : r ≠ [] := fun e => by subst e; exact rep_nil h x hx
structure Told (want : List Sp) (ls : List Lv) (sum : Int) (rows : List Row) : Prop where
  cnt : ∀ xs, inG ls xs → cntR rows xs = if InS want (sum + valS ls xs) then 1 else 0
  ok : ∀ r ∈ rows, rowOk ls r
structure LoopB (want : List Sp) (l : Lv) (ls : List Lv) (sum : Int) (D : Int → Prop) (out last : List Row) (n : Nat) : Prop where
  cnt : ∀ x xs, InS l.g x → inG ls xs → cntR out (x :: xs) = if D x ∧ InS want (sum + (l.val x + valS ls xs)) then 1 else 0
  ok : ∀ r ∈ out, rowOk (l :: ls) r
  shape : ∃ pre U, out = pre ++ last.map (U :: ·) ∧ pre.length = n ∧ Plain U ∧ ∀ x, InS U x → InS l.g x
theorem LoopB.merge {want : List Sp} {l : Lv} {ls : List Lv} {sum : Int} {D : Int → Prop} {out last : List Row} {n : Nat} (h : LoopB want l ls sum D out last n) (hl : LvOk l) {v : Int} {S : List Sp} (hS : Rep S (fun x => InS l.g x ∧ l.val x = v))
    (hv : ∃ x, InS l.g x ∧ l.val x = v) (hD : ∀ x, InS l.g x → D x → l.val x ≠ v) (hr : Told want ls (sum + v) last) : LoopB want l ls sum (fun x => D x ∨ l.val x = v) (mergeAt n S out) last n := by
  obtain ⟨x0, hx0⟩ := hv
  obtain ⟨pre, U, rfl, rfl, hU, hUg⟩ := h.shape
  have hun : ∃ r, Rep r (fun x => InS U x ∨ InS S x) := rep_sub hl.pl _ fun x hx => by
    rcases hx with hx | hx
    · exact hUg x hx
    · exact ((hS.2 x).1 hx).1
  have hR := plL_rep hun
  have hRu : ∀ x, InS (unionL U S) x ↔ (InS U x ∨ InS S x) := hR.2
  rw [mergeAt_eq]
  refine ⟨fun x xs hx hxs => ?_, fun r hr2 => ?_, pre, unionL U S, rfl, rfl, hR.1, fun x hx => ?_⟩
  · have h0 := h.cnt x xs hx hxs
    rw [cntR_append, cntR_map] at h0 ⊢
    by_cases hv : l.val x = v
    · have h1 : InS S x := (hS.2 x).2 ⟨hx, hv⟩
      have h2 : ¬ D x := fun hd => hD x hx hd hv
      have e : sum + (l.val x + valS ls xs) = sum + v + valS ls xs := by rw [hv]; omega
      have hz : (if D x ∧ InS want (sum + (l.val x + valS ls xs)) then (1 : Nat) else 0) = 0 := if_neg (fun h => h2 h.1)
      rw [hz] at h0
      rw [if_pos ((hRu x).2 (.inr h1)), hr.cnt xs hxs, e, show cntR pre (x :: xs) = 0 by omega, Nat.zero_add]
      by_cases hw : InS want (sum + v + valS ls xs)
      · rw [if_pos hw, if_pos ⟨.inr hv, hw⟩]
      · rw [if_neg hw, if_neg (fun h => hw h.2)]
    · have h1 : ¬ InS S x := fun h => hv ((hS.2 x).1 h).2
      have e : InS (unionL U S) x ↔ InS U x := by rw [hRu]; exact ⟨fun h => h.resolve_right h1, .inl⟩
      have e2 : (if InS (unionL U S) x then cntR last xs else 0) = if InS U x then cntR last xs else 0 := by
        by_cases hu : InS U x
        · rw [if_pos hu, if_pos (e.2 hu)]
        · rw [if_neg hu, if_neg (fun h => hu (e.1 h))]
      rw [e2, h0]
      by_cases hd : D x ∧ InS want (sum + (l.val x + valS ls xs))
      · rw [if_pos hd, if_pos ⟨.inl hd.1, hd.2⟩]
      · rw [if_neg hd, if_neg (fun h => hd ⟨h.1.resolve_right hv, h.2⟩)]
  · rcases List.mem_append.1 hr2 with h1 | h1
    · exact h.ok r (List.mem_append.2 (.inl h1))
    · obtain ⟨q, hq, rfl⟩ := List.mem_map.1 h1
      refine ⟨⟨hR.1, rep_ne hR (.inr ((hS.2 x0).2 hx0)), fun x hx => ?_⟩, hr.ok q hq⟩
      rcases (hRu x).1 hx with hx | hx
      · exact hUg x hx
      · exact ((hS.2 x).1 hx).1
  · rcases (hRu x).1 hx with hx | hx
    · exact hUg x hx
    · exact ((hS.2 x).1 hx).1
theorem LoopB.congr {want : List Sp} {l : Lv} {ls : List Lv} {sum : Int} {D E : Int → Prop} {out last : List Row} {n : Nat} (h : LoopB want l ls sum D out last n) (hE : ∀ x, D x ↔ E x) : LoopB want l ls sum E out last n := by
  have : D = E := funext fun x => propext (hE x)
  rw [← this]; exact h
end Go.Proofs.Ytlmkokeapbleoaa
end
