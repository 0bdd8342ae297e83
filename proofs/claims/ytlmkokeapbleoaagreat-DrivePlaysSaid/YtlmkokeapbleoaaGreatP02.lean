/- Contracts and plain laws that the proof leans on. Condition: as each theorem says. -/
import Derived.Test.YtlmkokeapbleoaaGreatP01
import Derived.Deep.RegionWith
set_option maxRecDepth 100000
set_option maxHeartbeats 64000000
set_option linter.unusedVariables false
set_option linter.unusedSimpArgs false
namespace Go.Proofs.YtlmkokeapbleoaaGreat
open Go.RowKit
def inHow (how : Int) (x y : Bool) : Bool := if how = 1 then x && y else if how = 2 then x && !y else x || y
def madeB (how : Int) (a b : List Sp) (x : Int) : Bool := inHow how (hasB a x) (hasB b x)
def lim (ys : List Int) (i : Nat) : Int := (ys[i]?).getD 1073741825
theorem hasB_next {done : List Sp} {ys : List Int} (h : BInv done ys) (a : List Sp) (ha : ∀ p ∈ a, p ∈ done) (x : Int) (hx0 : -1073741824 ≤ x) (hx1 : x < 1073741824) (hn : x + 1 ∉ ys) : hasB a x = hasB a (x + 1) := by
 rw [Bool.eq_iff_iff, hasB_iff, hasB_iff]
 unfold Mem
 have key : InS a x ↔ InS a (x + 1) := by
  rw [InS_iff, InS_iff]
  constructor
  ·rintro ⟨p, hp, h1, h2⟩
   refine ⟨p, hp, by omega, ?_⟩
   have := (h.2.2.2.1 p (ha p hp)).2
   by_cases e : p.2 = x
   ·exact absurd (e ▸ this (by omega) (by omega)) hn
   ·omega
  ·rintro ⟨p, hp, h1, h2⟩
   refine ⟨p, hp, ?_, by omega⟩
   have := (h.2.2.2.1 p (ha p hp)).1
   by_cases e : p.1 = x + 1
   ·exact absurd (e ▸ this (by omega) (by omega)) hn
   ·omega
 rw [key]
 exact ⟨fun ⟨_, _, g⟩ => ⟨by omega, by omega, g⟩, fun ⟨_, _, g⟩ => ⟨by omega, by omega, g⟩⟩
theorem lim_lt {ys : List Int} (h : Rise ys) (hb : ∀ y ∈ ys, -1073741824 ≤ y ∧ y ≤ 1073741824) (i : Nat) (y : Int) (hi : ys[i]? = some y) : y < lim ys (i + 1) ∧ lim ys (i + 1) ≤ 1073741825 := by
 unfold lim
 cases e : ys[i + 1]? with
 | none => have := hb y (List.mem_of_getElem? hi); simp; omega
 | some z =>
  have := h i (i + 1) y z (by omega) hi e
  have := hb z (List.mem_of_getElem? e)
  simp; omega
theorem no_border {ys : List Int} (h : Rise ys) (i : Nat) (y x : Int) (hi : ys[i]? = some y) (h1 : y < x) (h2 : x < lim ys (i + 1)) : x ∉ ys := by
 intro hx
 obtain ⟨j, hj⟩ := List.getElem?_of_mem hx
 rcases Nat.lt_trichotomy i j with g | g | g
 ·unfold lim at h2
  rcases Nat.lt_trichotomy (i + 1) j with g' | g' | g'
  ·have hl := (List.getElem?_eq_some_iff.1 hj).1
   have e : ys[i + 1]? = some (ys[i + 1]'(by omega)) := List.getElem?_eq_getElem (by omega)
   have := h (i + 1) j _ x g' e hj
   rw [e] at h2; simp at h2; omega
  ·subst g'; rw [hj] at h2; simp at h2
  ·omega
 ·subst g; rw [hi] at hj; simp at hj; omega
 ·have := h j i x y g hj hi; omega
theorem alike {done : List Sp} {ys : List Int} (h : BInv done ys) (a : List Sp) (ha : ∀ p ∈ a, p ∈ done) (i : Nat) (y : Int) (hi : ys[i]? = some y) (d : Nat) (hd : y + d < lim ys (i + 1)) : hasB a (y + d) = hasB a y := by
 induction d with
 | zero => simp
 | succ d ih =>
  have hy := h.2.2.1 y (List.mem_of_getElem? hi)
  have hl := lim_lt h.1 h.2.2.1 i y hi
  rw [← ih (by omega)]
  have := hasB_next h a ha (y + d) (by omega) (by omega) (no_border h.1 i y _ hi (by omega) (by omega))
  rw [this]
  congr 1
  omega
theorem made_alike {a b : List Sp} {ys : List Int} (how : Int) (h : BInv (a ++ b) ys) (i : Nat) (y x : Int) (hi : ys[i]? = some y) (h1 : y ≤ x) (h2 : x < lim ys (i + 1)) : madeB how a b x = madeB how a b y := by
 unfold madeB
 obtain ⟨d, rfl⟩ : ∃ d : Nat, x = y + d := ⟨(x - y).toNat, by omega⟩
 rw [alike h a (fun p hp => by simp [hp]) i y hi d h2, alike h b (fun p hp => by simp [hp]) i y hi d h2]
def MInv (how : Int) (a b : List Sp) (ys : List Int) (i : Nat) (out : List Sp) : Prop := Plain out ∧ (∀ x, InS out x ↔ (madeB how a b x = true ∧ x < lim ys i)) ∧ out.length ≤ i
theorem made_low (how : Int) (a b : List Sp) (x : Int) (h : madeB how a b x = true) : -1073741824 ≤ x ∧ x ≤ 1073741824 := by
 have key : ∀ l : List Sp, hasB l x = true → -1073741824 ≤ x ∧ x ≤ 1073741824 := fun l hl => ⟨((hasB_iff l x).1 hl).1, ((hasB_iff l x).1 hl).2.1⟩
 unfold madeB inHow at h
 split at h
 ·simp at h; exact key a h.1
 split at h
 ·simp at h; exact key a h.1
 ·simp at h; rcases h with h | h
  ·exact key a h
  ·exact key b h
theorem MInv.start (how : Int) (a b : List Sp) (ys : List Int) (h : BInv (a ++ b) ys) : MInv how a b ys 0 [] := by
 refine ⟨trivial, fun x => ?_, by simp⟩
 simp only [InS, false_iff, not_and]
 intro hx hl
 have := made_low how a b x hx
 obtain ⟨j, hj⟩ := List.getElem?_of_mem h.2.1
 have hne : lim ys 0 ≤ -1073741824 := by
  unfold lim
  cases e : ys[0]? with
  | none => have h2 := (List.getElem?_eq_some_iff.1 hj).1; rw [List.getElem?_eq_none_iff] at e; omega
  | some z =>
   simp
   rcases Nat.eq_zero_or_pos j with g | g
   ·subst g; rw [hj] at e; simp at e; omega
   ·have := h.1 0 j z _ g e hj; omega
 omega
theorem InS_split {ys : List Int} {how : Int} {a b : List Sp} {i : Nat} {y : Int} (h : BInv (a ++ b) ys) (hi : ys[i]? = some y) {out : List Sp} (hm : MInv how a b ys i out) (x : Int) :
  (madeB how a b x = true ∧ x < lim ys (i + 1)) ↔ (InS out x ∨ (madeB how a b y = true ∧ y ≤ x ∧ x < lim ys (i + 1))) := by
 have hl := lim_lt h.1 h.2.2.1 i y hi
 have e : lim ys i = y := by unfold lim; rw [hi]; rfl
 rw [hm.2.1 x, e]
 constructor
 ·rintro ⟨h1, h2⟩
  by_cases g : x < y
  ·exact .inl ⟨h1, g⟩
  ·exact .inr ⟨(made_alike how h i y x hi (by omega) h2) ▸ h1, by omega, h2⟩
 ·rintro (⟨h1, h2⟩ | ⟨h1, h2, h3⟩)
  ·exact ⟨h1, by omega⟩
  ·exact ⟨(made_alike how h i y x hi h2 h3).trans h1, h3⟩
theorem InS_last {l : List Sp} {q : Sp} (x : Int) : InS (l ++ [q]) x ↔ (InS l x ∨ (q.1 ≤ x ∧ x ≤ q.2)) := by rw [InS_append]; simp [InS]
theorem MInv.merge {ys : List Int} {how : Int} {a b : List Sp} {i : Nat} {y : Int} (h : BInv (a ++ b) ys) (hi : ys[i]? = some y) {l : List Sp} {q : Sp} (hm : MInv how a b ys i (l ++ [q])) (hin : madeB how a b y = true) (hq : q.2 = y - 1) :
  MInv how a b ys (i + 1) (l ++ [(q.1, lim ys (i + 1) - 1)]) := by
 have hl := lim_lt h.1 h.2.2.1 i y hi
 obtain ⟨p1, p2, p3⟩ := hm
 obtain ⟨l1, l2, l3, l4⟩ := PlainF.last p1
 refine ⟨PlainF.snoc (PlainF.init p1) l1 l2 (by simp only; omega) (by simp only; omega), fun x => ?_, by simp at *; omega⟩
 rw [InS_split h hi ⟨p1, p2, p3⟩ x, InS_last, InS_last, hin]
 simp only [true_and]
 constructor
 ·rintro (g | ⟨g1, g2⟩)
  ·exact .inl (.inl g)
  ·by_cases g3 : x ≤ q.2
   ·exact .inl (.inr ⟨g1, g3⟩)
   ·exact .inr ⟨by omega, by omega⟩
 ·rintro ((g | ⟨g1, g2⟩) | ⟨g1, g2⟩)
  ·exact .inl g
  ·exact .inr ⟨g1, by omega⟩
  ·exact .inr ⟨by omega, by omega⟩
theorem MInv.push {ys : List Int} {how : Int} {a b : List Sp} {i : Nat} {y : Int} (h : BInv (a ++ b) ys) (hi : ys[i]? = some y) {out : List Sp} (hm : MInv how a b ys i out) (hin : madeB how a b y = true) (hq : ∀ l q, out = l ++ [q] → q.2 ≠ y - 1) :
  MInv how a b ys (i + 1) (out ++ [(y, lim ys (i + 1) - 1)]) := by
 have hl := lim_lt h.1 h.2.2.1 i y hi
 have hy := h.2.2.1 y (List.mem_of_getElem? hi)
 obtain ⟨p1, p2, p3⟩ := hm
 have e : lim ys i = y := by unfold lim; rw [hi]; rfl
 have hlt : ∀ p ∈ out, p.2 + 1 < y := by
  rcases List.eq_nil_or_concat out with rfl | ⟨l, q, eo⟩
  ·simp
  ·rw [List.concat_eq_append] at eo
   subst eo
   obtain ⟨l1, l2, l3, l4⟩ := PlainF.last p1
   have h1 : q.2 < y := by
    have := (p2 q.2).1 ((InS_last _).2 (.inr ⟨l3, Int.le_refl _⟩))
    omega
   have h2 := hq l q rfl
   intro p hp
   rcases List.mem_append.1 hp with hp | hp
   ·have := l2 p hp; omega
   ·simp at hp; subst hp; omega
 refine ⟨PlainF.snoc p1 (by omega) hlt (by simp only; omega) (by simp only; omega), fun x => ?_, by simp; omega⟩
 rw [InS_split h hi ⟨p1, p2, p3⟩ x, InS_last, hin]
 simp only [true_and]
 constructor
 ·rintro (g | ⟨g1, g2⟩)
  ·exact .inl g
  ·exact .inr ⟨g1, by omega⟩
 ·rintro (g | ⟨g1, g2⟩)
  ·exact .inl g
  ·exact .inr ⟨g1, by omega⟩
theorem MInv.rep {ys : List Int} {how : Int} {a b : List Sp} {out : List Sp} (hm : MInv how a b ys ys.length out) : Rep out (fun x => madeB how a b x = true) := by
 refine ⟨hm.1, fun x => ?_⟩
 rw [hm.2.1 x]
 constructor
 ·exact fun g => g.1
 ·intro g
  refine ⟨g, ?_⟩
  have := made_low how a b x g
  unfold lim
  rw [List.getElem?_eq_none (Nat.le_refl _)]
  simp; omega
theorem info59 : (Tryz.prog.info? 129).map (fun i => (i.zero, i.size, i.bytes)) = some (some (.agg #[.int .i64 0, .int .i64 0]), 2, 16) := by kernel_rfl
def Fresh (B : Nat) (e : Ending) : Prop := ∃ A n c, e = .returned (.slice A n c) ∧ (n = 0 ∨ ∃ g, A = some ⟨g, 0, none⟩ ∧ B ≤ g)
theorem Fresh.of_own {w' : World} {B base size n : Nat} {t : TypeId} {v : Value} {xs : List Value} (h : w'.ownsRow base t size v n xs) (hB : B ≤ base) : Fresh B (.returned v) := by
 rcases id h.2 with ⟨rfl, h0⟩ | ⟨g, cap, cur, rfl, hg, _⟩
 ·exact ⟨_, _, _, rfl, .inl rfl⟩
 ·exact ⟨_, _, _, rfl, .inr ⟨g, rfl, Nat.le_trans hB hg⟩⟩
theorem NewSpans.of_own {w w' : World} {l : List Sp} {v : Value} {n base : Nat} {t : TypeId} (h : w'.ownsRow base t 2 v n (spanCells l)) (hb : Below w.heap.size w w') : NewSpans w l (.returned v) w' := by
 rcases id h with ⟨h1, ⟨rfl, rfl⟩ | ⟨g, cap, cur, rfl, _, _, hn, hc, _⟩⟩
 ·exact ⟨none, 0, 0, rfl, Sl.of_own h, by omega, by omega, hb⟩
 ·exact ⟨_, n, cap, rfl, Sl.of_own h, hn, hc, hb⟩
theorem spanCells_set (l : List Sp) (q : Sp) (t9 : Int) : (spanCells (l ++ [q])).set (l.length * 2 + 1) (.int .i64 t9) = spanCells (l ++ [(q.1, t9)]) := by
 rw [spanCells_append, spanCells_append, List.set_append_right _ _ (by rw [spanCells_length]; omega), spanCells_length]
 have : l.length * 2 + 1 - l.length * 2 = 1 := by omega
 rw [this]
 rfl
theorem snoc_cases (l : List Sp) : l = [] ∨ ∃ m q, l = m ++ [q] := by
 rcases List.eq_nil_or_concat l with rfl | ⟨m, q, e⟩
 ·exact .inl rfl
 ·exact .inr ⟨m, q, by rw [e, List.concat_eq_append]⟩
def clip (p : Sp) : Sp := (max p.1 (-1073741824), min p.2 1073741824)
def clips : List Sp → List Sp
 | [] => []
 | p :: l => if (clip p).1 ≤ (clip p).2 then clip p :: clips l else clips l
theorem clips_append (l m : List Sp) : clips (l ++ m) = clips l ++ clips m := by
 induction l with
 | nil => rfl
 | cons p l ih => simp only [List.cons_append, clips, ih]; split <;> rfl
theorem clips_length (l : List Sp) : (clips l).length ≤ l.length := by
 induction l with
 | nil => simp [clips]
 | cons p l ih => simp only [clips]; split <;> simp <;> omega
theorem clips_mem {l : List Sp} {p : Sp} (h : p ∈ clips l) : -1073741824 ≤ p.1 ∧ p.1 ≤ p.2 ∧ p.2 ≤ 1073741824 := by
 induction l with
 | nil => cases h
 | cons q l ih =>
  simp only [clips] at h
  split at h
  ·rename_i hq
   rcases List.mem_cons.1 h with rfl | h
   ·refine ⟨?_, hq, ?_⟩ <;> simp only [clip] <;> omega
   ·exact ih h
  ·exact ih h
theorem clips_InS (l : List Sp) (x : Int) : InS (clips l) x ↔ Mem l x := by
 unfold Mem
 induction l with
 | nil => simp [clips, InS]
 | cons q l ih =>
  simp only [clips, InS]
  split
  ·simp only [InS, ih]
   simp only [clip]
   constructor
   ·rintro (⟨h1, h2⟩ | ⟨h1, h2, h3⟩)
    ·exact ⟨by omega, by omega, .inl ⟨by omega, by omega⟩⟩
    ·exact ⟨h1, h2, .inr h3⟩
   ·rintro ⟨h1, h2, h3 | h3⟩
    ·exact .inl ⟨by omega, by omega⟩
    ·exact .inr ⟨h1, h2, h3⟩
  ·rename_i hq
   rw [ih]
   simp only [clip] at hq
   constructor
   ·rintro ⟨h1, h2, h3⟩; exact ⟨h1, h2, .inr h3⟩
   ·rintro ⟨h1, h2, h3 | h3⟩
    ·omega
    ·exact ⟨h1, h2, h3⟩
theorem InS_perm {l m : List Sp} (h : l.Perm m) (x : Int) : InS l x ↔ InS m x := by
 rw [InS_iff, InS_iff]
 exact ⟨fun ⟨p, hp, g⟩ => ⟨p, h.mem_iff.1 hp, g⟩, fun ⟨p, hp, g⟩ => ⟨p, h.mem_iff.2 hp, g⟩⟩
structure NInv (l : List Sp) (i : Nat) (o : List Sp) : Prop where
 plain : Plain o
 same : ∀ x, InS o x ↔ InS (l.take i) x
 len : o.length ≤ i
 low : ∀ p ∈ o, ∀ y ∈ l.drop i, p.1 ≤ y.1
def Srt (l : List Sp) : Prop := l.Pairwise (fun p q => p.1 ≤ q.1) ∧ ∀ p ∈ l, -1073741824 ≤ p.1 ∧ p.1 ≤ p.2 ∧ p.2 ≤ 1073741824
theorem NInv.start (l : List Sp) : NInv l 0 [] := ⟨trivial, fun x => by simp [InS], by simp, by simp⟩
theorem srt_later {l : List Sp} (h : Srt l) {i : Nat} {x : Sp} (hi : l[i]? = some x) : ∀ y ∈ l.drop (i + 1), x.1 ≤ y.1 := by
 have h1 : (l.drop i).Pairwise (fun p q => p.1 ≤ q.1) := h.1.sublist (List.drop_sublist _ _)
 rw [drop_cons? hi] at h1
 exact (List.pairwise_cons.1 h1).1
theorem NInv.push {l o : List Sp} {i : Nat} {x : Sp} (hs : Srt l) (h : NInv l i o) (hi : l[i]? = some x) (hg : ∀ m q, o = m ++ [q] → q.2 + 1 < x.1) : NInv l (i + 1) (o ++ [x]) := by
 have hx := hs.2 x (List.mem_of_getElem? hi)
 refine ⟨?_, fun z => ?_, by have := h.len; simp; omega, ?_⟩
 ·refine PlainF.snoc h.plain (by omega) (fun p hp => ?_) hx.2.1 hx.2.2
  rcases snoc_cases o with rfl | ⟨m, q, rfl⟩
  ·cases hp
  ·have hq := hg m q rfl
   have hl := PlainF.last h.plain
   rcases List.mem_append.1 hp with hp | hp
   ·have := hl.2.1 p hp; omega
   ·simp at hp; subst hp; exact hq
 ·rw [take_snoc? hi, InS_append, InS_append, h.same]
 ·intro p hp y hy
  rcases List.mem_append.1 hp with hp | hp
  ·exact h.low p hp y (by rw [drop_cons? hi]; exact List.mem_cons_of_mem _ hy)
  ·simp at hp; subst hp; exact srt_later hs hi y hy
theorem NInv.merge {l m : List Sp} {i : Nat} {x q : Sp} (hs : Srt l) (h : NInv l i (m ++ [q])) (hi : l[i]? = some x) (hg : x.1 ≤ q.2 + 1) : NInv l (i + 1) (m ++ [(q.1, max q.2 x.2)]) := by
 have hx := hs.2 x (List.mem_of_getElem? hi)
 have hl := PlainF.last h.plain
 have hq : q.1 ≤ x.1 := h.low q (by simp) x (by rw [drop_cons? hi]; simp)
 have hp0 : PlainF (-1073741826) (m ++ [q]) := h.plain
 have hqa : q.1 ∈ [q.1] := by simp
 have hqq : InS (m ++ [q]) q.1 := (InS_append _ _ _).2 (.inr (.inl ⟨by omega, hl.2.2.1⟩))
 have hql := hp0.low hqq
 refine ⟨?_, fun z => ?_, by have := h.len; simp at *; omega, ?_⟩
 ·exact PlainF.snoc (PlainF.init hp0) hql (fun p hp => hl.2.1 p hp) (by simp only; omega) (by simp only; omega)
 ·rw [take_snoc? hi, InS_append (l.take i), ← h.same, InS_append, InS_append]
  simp only [InS, or_false]
  constructor
  ·rintro (g | g)
   ·exact .inl (.inl g)
   ·by_cases e : z ≤ q.2
    ·exact .inl (.inr ⟨g.1, e⟩)
    ·exact .inr ⟨by omega, by omega⟩
  ·rintro ((g | g) | g)
   ·exact .inl g
   ·exact .inr ⟨g.1, by omega⟩
   ·exact .inr ⟨by omega, by omega⟩
 ·intro p hp y hy
  have hy' : y ∈ l.drop i := by rw [drop_cons? hi]; exact List.mem_cons_of_mem _ hy
  rcases List.mem_append.1 hp with hp | hp
  ·exact h.low p (by simp [hp]) y hy'
  ·simp at hp; subst hp; exact h.low q (by simp) y hy'
theorem NInv.rep {l l0 o : List Sp} (h : NInv l l.length o) (hp : l.Perm (clips l0)) : Rep o (Mem l0) := by
 refine ⟨h.plain, fun x => ?_⟩
 rw [h.same, List.take_length, InS_perm hp, clips_InS]
theorem own_cut {w : World} {base : Nat} {t : TypeId} {g n cap k : Nat} {M o : List Sp} (h : w.ownsRow base t 2 (.slice (some ⟨g, 0, none⟩) n cap) n (spanCells M)) (hk : k ≤ n) (ho : M.take k = o) : w.ownsRow base t 2 (.slice (some ⟨g, 0, none⟩) k cap) k (spanCells o) := by
 subst ho
 have hM : M.length = n := by have := h.1; rw [spanCells_length] at this; omega
 rcases h.2 with ⟨e0, _⟩ | ⟨g', cap', cur, e0, hb, hg, hn, hm, hs, ht⟩
 ·cases e0
 ·injection e0 with e1 _ e3
  injection e1 with e1
  injection e1 with e1
  subst e1; subst e3
  refine ⟨by rw [spanCells_length]; simp; omega, .inr ⟨g, cap, cur, rfl, hb, hg, by omega, hm, hs, ?_⟩⟩
  have e : spanCells M = spanCells (M.take k) ++ spanCells (M.drop k) := by rw [← spanCells_append, List.take_append_drop]
  have e2 : cur.toList.take (k * 2) = (cur.toList.take (n * 2)).take (k * 2) := by rw [List.take_take, Nat.min_eq_left (by omega)]
  rw [e2, ht, e, List.take_append_of_le_length (by rw [spanCells_length]; simp; omega), List.take_of_length_le (by rw [spanCells_length]; simp; omega)]
theorem spanCells_put (M : List Sp) (k : Nat) (x : Sp) (hk : k < M.length) : (spanCells M).take (k * 2) ++ [.int .i64 x.1, .int .i64 x.2] ++ (spanCells M).drop (k * 2 + 2) = spanCells (M.set k x) := by
 induction M generalizing k with
 | nil => simp at hk
 | cons q M ih =>
  have e : ∀ (q : Sp) M, spanCells (q :: M) = .int .i64 q.1 :: .int .i64 q.2 :: spanCells M := fun q M => by simp [spanCells]
  cases k with
  | zero => simp [e]
  | succ k =>
   have := ih k (by simpa using hk)
   simp only [List.set_cons_succ, e, show (k + 1) * 2 = k * 2 + 1 + 1 from by omega, show k * 2 + 1 + 1 + 2 = (k * 2 + 2) + 1 + 1 from by omega, List.take_succ_cons, List.drop_succ_cons, List.cons_append]
   rw [this]
theorem take_three (c news : List Value) (a b : Nat) (hn : news.length = 2) (hk : a + 2 ≤ b) (hl : b ≤ c.length) : (c.take a ++ news ++ c.drop (a + 2)).take b = c.take a ++ news ++ (c.drop (a + 2)).take (b - (a + 2)) := by
 have h1 : (c.take a ++ news).length = a + 2 := by simp; omega
 rw [List.take_append, h1, List.take_of_length_le (by omega)]
theorem wpList_room {P : Program} {w0 : World} {ops : Array Oper} {rest : List Oper} {o : Oper} {a : Act} {Q : Exit → Act → World → Prop} (hgd : o.guard = none) (s x : Operand) (t : TypeId)
  (ho : o.op = .call { callee := .builtin .append, args := #[s, x], argTypes := #[t, t] })
  (base : Nat) (e : TypeId) (i : TypeInfo) (ht : P.underlying t = some (.slice e)) (hi : P.info? e = some i) (hsize : i.size = 2)
  {g n cap k : Nat} {M : List Sp} (hown : w0.ownsRow base e 2 (.slice (some ⟨g, 0, none⟩) n cap) n (spanCells M)) (hk : k < n) (hs : a.eval s = .slice (some ⟨g, 0, none⟩) k cap)
  (y : Sp) (e' : TypeId) (hx : a.eval x = .slice (some ⟨w0.heap.size, 0, none⟩) 1 1)
  (h : ∀ w', w'.ownsRow base e 2 (.slice (some ⟨g, 0, none⟩) n cap) n (spanCells (M.set k y)) → (w0.alloc (.cells #[.int .i64 y.1, .int .i64 y.2] e')).grownBy w' (some g) → wpList P ops Q rest (a.put o.dst (.slice (some ⟨g, 0, none⟩) (k + 1) cap)) w') :
  wpList P ops Q (o :: rest) a (w0.alloc (.cells #[.int .i64 y.1, .int .i64 y.2] e')) := by
 have hM : M.length = n := by have := hown.1; rw [spanCells_length] at this; omega
 have hal := hown.alloc (.cells #[.int .i64 y.1, .int .i64 y.2] e')
 have key : ∃ w', (Builtin.append_ #[t, t] o.type #[.slice (some ⟨g, 0, none⟩) k cap, .slice (some ⟨w0.heap.size, 0, none⟩) 1 1]).run P (w0.alloc (.cells #[.int .i64 y.1, .int .i64 y.2] e')) = .ok (.slice (some ⟨g, 0, none⟩) (k + 1) cap) w' ∧
   w'.ownsRow base e 2 (.slice (some ⟨g, 0, none⟩) n cap) n (spanCells (M.set k y)) ∧ (w0.alloc (.cells #[.int .i64 y.1, .int .i64 y.2] e')).grownBy w' (some g) := by
  rcases hal.2 with ⟨e0, _⟩ | ⟨g', cap', cur, e0, hb, hg, hn, hm, hcs, htk⟩
  ·cases e0
  ·injection e0 with e1 _ e3
   injection e1 with e1
   injection e1 with e1
   subst e1; subst e3
   have hr := run_append_room (P := P) (w0.alloc (.cells #[.int .i64 y.1, .int .i64 y.2] e')) t o.type e i ht hi g k cap cur hg ⟨w0.heap.size, 0, none⟩ 1 1 [.int .i64 y.1, .int .i64 y.2] (by rw [hsize]; rfl)
    (fun j u hu => by
     have e : (⟨w0.heap.size, 0, none⟩ : Addr).add j = ⟨w0.heap.size, 0 + j, none⟩ := by unfold Addr.add; split <;> simp_all
     rw [e]
     have hb := heap_alloc_new w0 (.cells #[.int .i64 y.1, .int .i64 y.2] e')
     simp only [World.cell?, hb]
     simpa using hu)
    (by intro u hu; simp at hu; rcases hu with rfl | rfl <;> rfl) (by omega) (by rw [hsize, hcs]; simp; omega)
   refine ⟨_, hr, ⟨by rw [spanCells_length]; simp [hM], .inr ⟨g, cap, _, rfl, hb, setRow_heap _ g cur _ e _ hg, hn, hm, ?_, ?_⟩⟩, ⟨rfl, rfl, rfl, by simp, fun j _ hj => setRow_other _ g j _ (fun e => hj (by simp [e]))⟩⟩
   ·simp only [List.size_toArray, List.length_append, List.length_take, List.length_drop, Array.length_toList, hsize, List.length_cons, List.length_nil]
    omega
   ·rw [← spanCells_put M k y (by omega), ← htk, hsize]
    simp only [List.length_cons, List.length_nil]
    have hlen : cur.toList.length = cap * 2 := by simpa using hcs
    rw [List.take_take, Nat.min_eq_left (by omega), List.drop_take]
    exact take_three _ _ _ _ rfl (by omega) (by omega)
 obtain ⟨w', hr, h2, h3⟩ := key
 refine wpList_plain hgd fun K hK => ?_
 unfold Oper.wp execOp
 simp only [ho, resolve, invoke, builtin, Sem.run_bind, Sem.run_pure, Result.andThen_ok, List.map_toArray, List.map_cons, List.map_nil, hs, hx, hr]
 exact hK _ _ (h w' h2 h3)
theorem room_push (o J ls : List Sp) (i : Nat) (x : Sp) (hi : ls[i]? = some x) (hl : o.length + J.length = i) : ∃ J', (o ++ J ++ ls.drop i).set o.length x = (o ++ [x]) ++ J' ++ ls.drop (i + 1) ∧ (o ++ [x]).length + J'.length = i + 1 := by
 cases J with
 | nil =>
  refine ⟨[], ?_, by simp at *; omega⟩
  rw [drop_cons? hi]
  simp
 | cons y J =>
  refine ⟨J ++ [x], ?_, by simp at *; omega⟩
  rw [drop_cons? hi]
  simp
theorem room_merge (m J ls : List Sp) (q : Sp) (i : Nat) (x : Sp) (z : Int) (hi : ls[i]? = some x) (hl : (m ++ [q]).length + J.length = i) :
  ∃ J', (spanCells ((m ++ [q]) ++ J ++ ls.drop i)).set (m.length * 2 + 1) (.int .i64 z) = spanCells ((m ++ [(q.1, z)]) ++ J' ++ ls.drop (i + 1)) ∧ (m ++ [(q.1, z)]).length + J'.length = i + 1 := by
 refine ⟨J ++ [x], ?_, by simp at *; omega⟩
 have e : (m ++ [(q.1, z)]) ++ (J ++ [x]) ++ ls.drop (i + 1) = (m ++ [(q.1, z)]) ++ (J ++ ls.drop i) := by rw [drop_cons? hi]; simp
 rw [e, List.append_assoc, spanCells_append (m ++ [q]), spanCells_append (m ++ [(q.1, z)]), ← spanCells_set m q z]
 exact List.set_append_left _ _ (by rw [spanCells_length]; simp; omega)
theorem row_at (o J ls : List Sp) (i : Nat) (x : Sp) (hi : ls[i]? = some x) (hl : o.length + J.length = i) : (o ++ J ++ ls.drop i)[i]? = some x := by
 rw [List.getElem?_append_right (by simp; omega), List.getElem?_drop]
 rw [← hi]; congr 1; simp; omega
theorem row_last (m J ls : List Sp) (q : Sp) (i : Nat) : ((m ++ [q]) ++ J ++ ls.drop i)[m.length]? = some q := by simp
structure MtInv (r s p q o : List Sp) : Prop where
 pl : ∃ a, -1073741826 ≤ a ∧ PlainF a p
 ql : ∃ a, -1073741826 ≤ a ∧ PlainF a q
 plain : Plain o
 same : ∀ x, (InS o x ∨ (InS p x ∧ InS q x)) ↔ (InS r x ∧ InS s x)
 sep : ∀ t ∈ o, ∀ x, InS p x → InS q x → t.2 + 1 < x
theorem MtInv.start {r s : List Sp} (hr : Plain r) (hs : Plain s) : MtInv r s r s [] := ⟨⟨_, Int.le_refl _, hr⟩, ⟨_, Int.le_refl _, hs⟩, trivial, fun x => by simp [InS], by simp⟩
theorem MtInv.rep {r s p q o : List Sp} {S T : Int → Prop} (h : MtInv r s p q o) (he : p = [] ∨ q = []) (hr : Rep r S) (hs : Rep s T) : Rep o (fun x => S x ∧ T x) := by
 refine ⟨h.plain, fun x => ?_⟩
 have := h.same x
 rw [hr.2, hs.2] at this
 show InS o x ↔ (S x ∧ T x)
 rw [← this]
 rcases he with rfl | rfl <;> simp [InS]
def both (x y : Sp) : List Sp := if max x.1 y.1 ≤ min x.2 y.2 then [(max x.1 y.1, min x.2 y.2)] else []
theorem both_InS (x y : Sp) (z : Int) : InS (both x y) z ↔ (x.1 ≤ z ∧ z ≤ x.2) ∧ (y.1 ≤ z ∧ z ≤ y.2) := by
 unfold both
 split
 ·simp only [InS, or_false]; omega
 ·rename_i h; simp only [InS, false_iff]; omega
theorem both_mem {x y t : Sp} (h : t ∈ both x y) : t = (max x.1 y.1, min x.2 y.2) ∧ max x.1 y.1 ≤ min x.2 y.2 := by
 unfold both at h
 split at h
 ·rename_i g; simp at h; exact ⟨h, g⟩
 ·cases h
theorem MtInv.left {r s p q o : List Sp} {x y : Sp} (h : MtInv r s (x :: p) (y :: q) o) (hc : x.2 < y.2) : MtInv r s p (y :: q) (o ++ both x y) := by
 obtain ⟨a, ha, h1, h2, h3, h4⟩ := h.pl
 obtain ⟨b, hb, g1, g2, g3, g4⟩ := h.ql
 refine ⟨⟨x.2, by omega, h4⟩, ⟨b, hb, g1, g2, g3, g4⟩, ?_, fun z => ?_, ?_⟩
 ·unfold both
  split
  ·rename_i hm
   refine PlainF.snoc h.plain (by simp only; omega) (fun t ht => ?_) hm (by simp only; omega)
   exact h.sep t ht _ (.inl ⟨by simp only; omega, by simp only; omega⟩) (.inl ⟨by simp only; omega, by simp only; omega⟩)
  ·rw [List.append_nil]; exact h.plain
 ·rw [← h.same z, InS_append, both_InS]
  constructor
  ·rintro ((e | e) | e)
   ·exact .inl e
   ·exact .inr ⟨.inl e.1, .inl e.2⟩
   ·exact .inr ⟨.inr e.1, e.2⟩
  ·rintro (e | ⟨e1 | e1, e2⟩)
   ·exact .inl (.inl e)
   ·rcases e2 with e2 | e2
    ·exact .inl (.inr ⟨e1, e2⟩)
    ·have := g4.low e2; omega
   ·exact .inr ⟨e1, e2⟩
 ·intro t ht z hp hq
  rcases List.mem_append.1 ht with ht | ht
  ·exact h.sep t ht z (.inr hp) hq
  ·obtain ⟨rfl, _⟩ := both_mem ht
   have := h4.low hp
   simp only; omega
theorem MtInv.right {r s p q o : List Sp} {x y : Sp} (h : MtInv r s (x :: p) (y :: q) o) (hc : ¬ x.2 < y.2) : MtInv r s (x :: p) q (o ++ both x y) := by
 obtain ⟨a, ha, h1, h2, h3, h4⟩ := h.pl
 obtain ⟨b, hb, g1, g2, g3, g4⟩ := h.ql
 refine ⟨⟨a, ha, h1, h2, h3, h4⟩, ⟨y.2, by omega, g4⟩, ?_, fun z => ?_, ?_⟩
 ·unfold both
  split
  ·rename_i hm
   refine PlainF.snoc h.plain (by simp only; omega) (fun t ht => ?_) hm (by simp only; omega)
   exact h.sep t ht _ (.inl ⟨by simp only; omega, by simp only; omega⟩) (.inl ⟨by simp only; omega, by simp only; omega⟩)
  ·rw [List.append_nil]; exact h.plain
 ·rw [← h.same z, InS_append, both_InS]
  constructor
  ·rintro ((e | e) | e)
   ·exact .inl e
   ·exact .inr ⟨.inl e.1, .inl e.2⟩
   ·exact .inr ⟨e.1, .inr e.2⟩
  ·rintro (e | ⟨e1, e2 | e2⟩)
   ·exact .inl (.inl e)
   ·rcases e1 with e1 | e1
    ·exact .inl (.inr ⟨e1, e2⟩)
    ·have := h4.low e1; omega
   ·exact .inr ⟨e1, e2⟩
 ·intro t ht z hp hq
  rcases List.mem_append.1 ht with ht | ht
  ·exact h.sep t ht z hp (.inr hq)
  ·obtain ⟨rfl, _⟩ := both_mem ht
   have := g4.low hq
   simp only; omega
structure NgInv (r : List Sp) (k : Nat) (f : Int) (o : List Sp) : Prop where
 same : ∀ z, InS o z ↔ (-1073741824 ≤ z ∧ z < f ∧ ¬ InS (r.take k) z)
 low : ∀ z, InS (r.take k) z → z < f
 rest : PlainF (f - 1) (r.drop k) ∨ (k = 0 ∧ f = -1073741824 ∧ Plain r)
 bound : -1073741824 ≤ f ∧ f ≤ 1073741825
 len : o.length = k
 word : ∀ p ∈ o, (-1073741826 ≤ p.1 ∧ p.1 ≤ 1073741825) ∧ (-1073741826 ≤ p.2 ∧ p.2 ≤ 1073741825)
theorem NgInv.start {r : List Sp} (h : Plain r) : NgInv r 0 (-1073741824) [] := by
 refine ⟨fun z => ?_, by simp [InS], .inr ⟨rfl, rfl, h⟩, by omega, rfl, by simp⟩
 simp only [InS, List.take_zero, not_false_eq_true, and_true, false_iff]; omega
theorem NgInv.head {r o : List Sp} {k : Nat} {f : Int} {x : Sp} (h : NgInv r k f o) (hx : r[k]? = some x) : f ≤ x.1 ∧ x.1 ≤ x.2 ∧ x.2 ≤ 1073741824 ∧ PlainF x.2 (r.drop (k + 1)) := by
 rcases h.rest with g | ⟨rfl, rfl, g⟩
 ·rw [drop_cons? hx] at g
  obtain ⟨a1, a2, a3, a4⟩ := g
  exact ⟨by omega, a2, a3, a4⟩
 ·have e := drop_cons? hx
  rw [List.drop_zero] at e
  rw [e] at g
  obtain ⟨a1, a2, a3, a4⟩ := g
  exact ⟨by omega, a2, a3, a4⟩
theorem NgInv.step {r o : List Sp} {k : Nat} {f : Int} {x : Sp} (h : NgInv r k f o) (hx : r[k]? = some x) : NgInv r (k + 1) (x.2 + 1) (o ++ [(f, x.1 - 1)]) := by
 obtain ⟨h1, h2, h3, h4⟩ := h.head hx
 have hb := h.bound
 refine ⟨fun z => ?_, fun z hz => ?_, .inl ?_, by omega, by simp [h.len], ?_⟩
 ·rw [InS_append, h.same, take_snoc? hx, InS_append]
  simp only [InS, or_false]
  have hl := h.low z
  constructor
  ·rintro (⟨e1, e2, e3⟩ | ⟨e1, e2⟩)
   ·exact ⟨e1, by omega, by rintro (g | g); exact e3 g; omega⟩
   ·exact ⟨by omega, by omega, by rintro (g | g); have := hl g; omega; omega⟩
  ·rintro ⟨e1, e2, e3⟩
   by_cases g : z < f
   ·exact .inl ⟨e1, g, fun g' => e3 (.inl g')⟩
   ·exact .inr ⟨by omega, by
     have : ¬ (x.1 ≤ z ∧ z ≤ x.2) := fun g' => e3 (.inr g')
     omega⟩
 ·rw [take_snoc? hx, InS_append] at hz
  simp only [InS, or_false] at hz
  rcases hz with g | g
  ·have := h.low z g; omega
  ·omega
 ·rw [Int.add_sub_cancel]; exact h4
 ·intro p hp
  rcases List.mem_append.1 hp with hp | hp
  ·exact h.word p hp
  ·simp at hp; subst hp; simp only; omega
theorem NgInv.done {r o : List Sp} {f : Int} {S : Int → Prop} (h : NgInv r r.length f o) (hr : Rep r S) : (∀ z, Mem (o ++ [(f, 1073741824)]) z ↔ (-1073741824 ≤ z ∧ z ≤ 1073741824 ∧ ¬ S z)) ∧ SpW (o ++ [(f, 1073741824)]) := by
 have hb := h.bound
 refine ⟨fun z => ?_, ?_⟩
 ·unfold Mem
  have hs := h.same z
  have hl := h.low z
  rw [List.take_length] at hs hl
  rw [InS_append, hs, ← hr.2]
  simp only [InS, or_false]
  constructor
  ·rintro ⟨e1, e2, (e3 | e3)⟩
   ·exact ⟨e1, e2, e3.2.2⟩
   ·exact ⟨e1, e2, fun g => by have := hl g; omega⟩
  ·rintro ⟨e1, e2, e3⟩
   by_cases g : z < f
   ·exact ⟨e1, e2, .inl ⟨e1, g, e3⟩⟩
   ·exact ⟨e1, e2, .inr ⟨by omega, by omega⟩⟩
 ·intro p hp
  rcases List.mem_append.1 hp with hp | hp
  ·have := h.word p hp; omega
  ·simp at hp; subst hp; simp only; omega
theorem cnt_nil : cnt [] = 0 := rfl
theorem cnt_cons (p : Sp) (l : List Sp) : cnt (p :: l) = p.2 - p.1 + 1 + cnt l := by simp [cnt]
theorem PlainF.cnt_le {a : Int} {l : List Sp} (h : PlainF a l) (ha : a ≤ 1073741824) : 0 ≤ cnt l ∧ cnt l ≤ 1073741824 - a := by
 induction l generalizing a with
 | nil => rw [cnt_nil]; omega
 | cons p l ih =>
  obtain ⟨h1, h2, h3, h4⟩ := h
  have := ih h4 h3
  rw [cnt_cons]; omega
theorem Plain.cnt_take {l : List Sp} (h : Plain l) (k : Nat) : 0 ≤ cnt (l.take k) ∧ cnt (l.take k) ≤ 2147483650 := by
 have h1 : PlainF (-1073741826) (l.take k) := by
  have : PlainF (-1073741826) (l.take k ++ l.drop k) := by rw [List.take_append_drop]; exact h
  exact PlainF.init this
 have := PlainF.cnt_le h1 (by omega)
 omega
structure Lst (A : Option Addr) (l : List Sp) (W : World) : Prop where
 sp : Spans W A l.length l
 wd : SpW l
 len : l.length < 137438953472
theorem Lst.below {A : Option Addr} {l : List Sp} {w w' : World} (h : Lst A l w) (hb : Below w.heap.size w w') : Lst A l w' := ⟨h.sp.below hb, h.wd, h.len⟩
theorem PlainF.spw {a : Int} {l : List Sp} (h : PlainF a l) (ha : -1073741826 ≤ a) : ∀ p ∈ l, -1073741824 ≤ p.1 ∧ p.1 ≤ p.2 ∧ p.2 ≤ 1073741824 := by
 induction l generalizing a with
 | nil => intro p hp; cases hp
 | cons q l ih =>
  obtain ⟨h1, h2, h3, h4⟩ := h
  intro p hp
  rcases List.mem_cons.1 hp with rfl | hp
  ·omega
  ·exact ih h4 (by omega) p hp
theorem Plain.spw {l : List Sp} (h : Plain l) : SpW l := fun p hp => by have := PlainF.spw h (Int.le_refl _) p hp; omega
theorem PlainF.len_le {a : Int} {l : List Sp} (h : PlainF a l) (ha : a ≤ 1073741824) : 2 * (l.length : Int) ≤ 1073741824 - a := by
 induction l generalizing a with
 | nil => simp; omega
 | cons q l ih =>
  obtain ⟨h1, h2, h3, h4⟩ := h
  have := ih h4 h3
  simp; omega
theorem Plain.len_le {l : List Sp} (h : Plain l) : l.length ≤ 1073741825 := by have := PlainF.len_le h (by omega); omega
theorem Plain.lst {l : List Sp} (h : Plain l) {A : Option Addr} {w : World} (hs : Spans w A l.length l) : ∀ W, Below w.heap.size w W → Lst A l W :=
 fun W hW => ⟨hs.below hW, h.spw, by have := h.len_le; omega⟩
theorem last_cases (l : List Sp) : l = [] ∨ ∃ m q, l = m ++ [q] := by
 rcases List.eq_nil_or_concat l with h | ⟨m, q, h⟩
 ·exact .inl h
 ·exact .inr ⟨m, q, by simpa using h⟩
theorem rep_upto (S : Int → Prop) (N : Nat) (hN : N ≤ 2147483649) : ∃ r, Rep r (fun x => S x ∧ -1073741824 ≤ x ∧ x < -1073741824 + (N : Int)) := by
 induction N with
 | zero => exact ⟨[], trivial, fun x => by simp only [InS, false_iff]; omega⟩
 | succ N ih =>
  obtain ⟨r, hp, hr⟩ := ih (by omega)
  by_cases hy : S (-1073741824 + (N : Int))
  ·rcases last_cases r with rfl | ⟨m, q, rfl⟩
   ·refine ⟨[(-1073741824 + (N : Int), -1073741824 + (N : Int))], ⟨by simp only; omega, by simp, by simp only; omega, trivial⟩, fun x => ?_⟩
    have := hr x
    simp only [InS, or_false, false_iff] at this ⊢
    constructor
    ·intro h
     obtain rfl : x = -1073741824 + (N : Int) := by omega
     exact ⟨hy, by omega, by omega⟩
    ·rintro ⟨h1, h2, h3⟩
     by_cases e : x = -1073741824 + (N : Int)
     ·omega
     ·exact absurd ⟨h1, h2, by omega⟩ this
   ·have hl := PlainF.last hp
    have hq : InS (m ++ [q]) q.2 := (InS_append _ _ _).2 (.inr (.inl ⟨by omega, by omega⟩))
    have hql := ((hr _).1 hq).2
    by_cases hj : q.2 + 1 = -1073741824 + (N : Int)
    ·refine ⟨m ++ [(q.1, -1073741824 + (N : Int))], PlainF.snoc (PlainF.init hp) hl.1 hl.2.1 (by simp only; omega) (by simp only; omega), fun x => ?_⟩
     have hx := hr x
     rw [InS_append] at hx ⊢
     simp only [InS, or_false] at hx ⊢
     constructor
     ·rintro (h | h)
      ·have := hx.1 (.inl h); exact ⟨this.1, by omega, by omega⟩
      ·by_cases e : x = -1073741824 + (N : Int)
       ·subst e; exact ⟨hy, by omega, by omega⟩
       ·have := hx.1 (.inr ⟨by omega, by omega⟩); exact ⟨this.1, by omega, by omega⟩
     ·rintro ⟨h1, h2, h3⟩
      by_cases e : x = -1073741824 + (N : Int)
      ·exact .inr ⟨by omega, by omega⟩
      ·rcases hx.2 ⟨h1, h2, by omega⟩ with h | h
       ·exact .inl h
       ·exact .inr ⟨by omega, by omega⟩
    ·refine ⟨(m ++ [q]) ++ [(-1073741824 + (N : Int), -1073741824 + (N : Int))], PlainF.snoc hp (by simp only; have := hp.low hq; omega) (fun p hp' => ?_) (by simp) (by simp only; omega), fun x => ?_⟩
     ·simp only
      rcases List.mem_append.1 hp' with h | h
      ·have := hl.2.1 p h; omega
      ·simp at h; subst h; omega
     ·have hx := hr x
      rw [InS_append (m ++ [q]), hx]
      simp only [InS, or_false]
      constructor
      ·rintro (h | h)
       ·exact ⟨h.1, by omega, by omega⟩
       ·obtain rfl : x = -1073741824 + (N : Int) := by omega
        exact ⟨hy, by omega, by omega⟩
      ·rintro ⟨h1, h2, h3⟩
       by_cases e : x = -1073741824 + (N : Int)
       ·exact .inr ⟨by omega, by omega⟩
       ·exact .inl ⟨h1, h2, by omega⟩
  ·refine ⟨r, hp, fun x => ?_⟩
   rw [hr x]
   constructor
   ·rintro ⟨h1, h2, h3⟩; exact ⟨h1, h2, by omega⟩
   ·rintro ⟨h1, h2, h3⟩
    refine ⟨h1, h2, ?_⟩
    by_cases e : x = -1073741824 + (N : Int)
    ·subst e; exact absurd h1 hy
    ·omega
theorem rep_all (S : Int → Prop) (hS : ∀ x, S x → -1073741824 ≤ x ∧ x ≤ 1073741824) : ∃ r, Rep r S := by
 obtain ⟨r, hr⟩ := rep_upto S 2147483649 (by omega)
 exact ⟨r, hr.congr fun x => ⟨fun h => h.1, fun h => ⟨h, by have := hS x h; omega, by have := hS x h; omega⟩⟩⟩
theorem Mem.bound {l : List Sp} {x : Int} (h : Mem l x) : -1073741824 ≤ x ∧ x ≤ 1073741824 := ⟨h.1, h.2.1⟩
theorem rep_norm (a : List Sp) : ∃ r, Hid (Rep r (Mem a)) := rep_all _ fun _ h => Mem.bound h
theorem rep_meet (a b : List Sp) : ∃ r, Hid (Rep r (fun x => Mem a x ∧ Mem b x)) := rep_all _ fun _ h => Mem.bound h.1
theorem rep_minus (a b : List Sp) : ∃ r, Hid (Rep r (fun x => Mem a x ∧ ¬ Mem b x)) := rep_all _ fun _ h => Mem.bound h.1
theorem Rep.mem {r : List Sp} {S : Int → Prop} (h : Rep r S) (x : Int) : Mem r x ↔ S x := (h.1.mem x).trans (h.2 x)
theorem NInv.ex {l : List Sp} (hs : Srt l) (i : Nat) (hi : i ≤ l.length) : ∃ o, NInv l i o := by
 induction i with
 | zero => exact ⟨[], NInv.start l⟩
 | succ i ih =>
  obtain ⟨o, ho⟩ := ih (by omega)
  have hx : l[i]? = some l[i] := List.getElem?_eq_getElem (by omega)
  rcases last_cases o with rfl | ⟨m, q, rfl⟩
  ·exact ⟨_, ho.push hs hx fun m q e => by simp at e⟩
  ·by_cases hj : l[i].1 ≤ q.2 + 1
   ·exact ⟨_, ho.merge hs hx hj⟩
   ·refine ⟨_, ho.push hs hx fun m' q' e => ?_⟩
    have := List.append_inj_right' e rfl
    simp at this
    rw [← this]; omega
theorem Rep.len_le {l r : List Sp} (hr : Rep r (Mem l)) : r.length ≤ l.length := by
 have hp := List.mergeSort_perm (clips l) (fun p q => decide (p.1 ≤ q.1))
 have hw := List.pairwise_mergeSort (le := fun p q : Sp => decide (p.1 ≤ q.1)) (fun a b c h1 h2 => by simp at *; omega) (fun a b => by simp; omega) (clips l)
 have hs : Srt ((clips l).mergeSort (fun p q => decide (p.1 ≤ q.1))) := ⟨hw.imp (fun h => by simpa using h), fun p h => clips_mem (hp.mem_iff.1 h)⟩
 obtain ⟨o, ho⟩ := NInv.ex hs _ (Nat.le_refl _)
 obtain rfl := Rep.unique (ho.rep hp) hr (fun _ => Iff.rfl)
 have := ho.len
 rw [hp.length_eq] at this
 exact Nat.le_trans this (clips_length l)
def nthS : List Sp → Int → Option Int
 | [], _ => none
 | p :: l, i => if i < p.2 - p.1 + 1 then some (p.1 + i) else nthS l (i - (p.2 - p.1 + 1))
theorem PlainF.cnt_pos {a : Int} {l : List Sp} (h : PlainF a l) : l = [] ∨ 0 < cnt l := by
 cases l with
 | nil => exact .inl rfl
 | cons p l =>
  obtain ⟨h1, h2, h3, h4⟩ := h
  have := h4.cnt_le h3
  right; rw [cnt_cons]; omega
theorem nthS_first {a : Int} {p : Sp} {l : List Sp} (h : PlainF a (p :: l)) : nthS (p :: l) 0 = some p.1 := by
 obtain ⟨h1, h2, _⟩ := h
 simp only [nthS]; rw [if_pos (by omega)]; simp
theorem nthS_last {a : Int} {q : Sp} {l : List Sp} (h : PlainF a (l ++ [q])) : nthS (l ++ [q]) (cnt (l ++ [q]) - 1) = some q.2 := by
 induction l generalizing a with
 | nil =>
  obtain ⟨h1, h2, _⟩ := h
  simp only [List.nil_append, cnt_cons, cnt_nil, nthS]; rw [if_pos (by omega)]; congr 1; omega
 | cons p l ih =>
  obtain ⟨h1, h2, h3, h4⟩ := h
  have hp : 0 < cnt (l ++ [q]) := by
   rcases h4.cnt_pos with e | e
   ·simp at e
   ·exact e
  have := ih h4
  rw [List.cons_append, cnt_cons]
  simp only [nthS]
  rw [if_neg (by omega)]
  rw [← this]; congr 1; omega
theorem Plain.cnt_bd {l : List Sp} (h : Plain l) : 0 ≤ cnt l ∧ cnt l ≤ 2147483650 := by
 have := Plain.cnt_take h l.length
 rwa [List.take_length] at this
section
open Classical
noncomputable def plL (S : Int → Prop) : List Sp := if h : ∃ r, Rep r S then h.choose else []
theorem plL_rep {S : Int → Prop} (h : ∃ r, Rep r S) : Rep (plL S) S := by unfold plL; rw [dif_pos h]; exact h.choose_spec
structure Lv where
 g : List Sp
 val : Int → Int
 one : Bool
 top : Int
abbrev Row := List (List Sp)
def valS : List Lv → List Int → Int
 | l :: ls, x :: xs => l.val x + valS ls xs
 | _, _ => 0
def inG : List Lv → List Int → Prop
 | [], [] => True
 | l :: ls, x :: xs => InS l.g x ∧ inG ls xs
 | _, _ => False
def hit : Row → List Int → Prop
 | [], [] => True
 | s :: r, x :: xs => InS s x ∧ hit r xs
 | _, _ => False
noncomputable def cntR (rows : List Row) (xs : List Int) : Nat := (rows.filter fun r => decide (hit r xs)).length
def rowOk : List Lv → Row → Prop
 | [], [] => True
 | l :: ls, s :: r => (Plain s ∧ s ≠ [] ∧ ∀ x, InS s x → InS l.g x) ∧ rowOk ls r
 | _, _ => False
structure LvOk (l : Lv) : Prop where
 pl : Plain l.g
 ne : l.g ≠ []
 lo : ∀ x, InS l.g x → 0 ≤ l.val x
 hi : ∀ x, InS l.g x → l.val x ≤ l.top
noncomputable def unionL (a b : List Sp) : List Sp := plL fun x => InS a x ∨ InS b x
noncomputable def headUn (S : List Sp) : Row → Row
 | [] => []
 | h :: t => unionL h S :: t
noncomputable def mergeAt (n : Nat) (S : List Sp) (out : List Row) : List Row := out.take n ++ (out.drop n).map (headUn S)
theorem cntR_append (a b : List Row) (xs : List Int) : cntR (a ++ b) xs = cntR a xs + cntR b xs := by unfold cntR; rw [List.filter_append, List.length_append]
theorem cntR_map (S : List Sp) (a : List Row) (x : Int) (xs : List Int) : cntR (a.map (S :: ·)) (x :: xs) = if InS S x then cntR a xs else 0 := by
 unfold cntR
 induction a with
 | nil => simp
 | cons r a ih =>
  rw [List.map_cons, List.filter_cons, List.filter_cons]
  by_cases hS : InS S x
  ·rw [if_pos hS] at ih ⊢
   have : (hit (S :: r) (x :: xs)) ↔ hit r xs := ⟨fun h => h.2, fun h => ⟨hS, h⟩⟩
   by_cases hr : hit r xs
   ·rw [if_pos (decide_eq_true (this.2 hr)), if_pos (decide_eq_true hr), List.length_cons, List.length_cons, ih]
   ·rw [if_neg (by simpa [this] using hr), if_neg (by simpa using hr), ih]
  ·rw [if_neg hS] at ih ⊢
   have : ¬ hit (S :: r) (x :: xs) := fun h => hS h.1
   rw [if_neg (by simpa using this), ih]
theorem headUn_map (U S : List Sp) (a : List Row) : (a.map (U :: ·)).map (headUn S) = a.map (unionL U S :: ·) := by
 rw [List.map_map]; rfl
theorem mergeAt_eq (pre : List Row) (U S : List Sp) (last : List Row) : mergeAt pre.length S (pre ++ last.map (U :: ·)) = pre ++ last.map (unionL U S :: ·) := by
 unfold mergeAt
 rw [List.take_left, List.drop_left, headUn_map]
theorem rep_sub {l : List Sp} (h : Plain l) (S : Int → Prop) (hS : ∀ x, S x → InS l x) : ∃ r, Rep r S :=
 rep_all S fun x hx => ⟨h.low (hS x hx), PlainF.high h (hS x hx)⟩
theorem rep_nil {S : Int → Prop} (h : Rep [] S) (x : Int) : ¬ S x := fun hx => by have := (h.2 x).2 hx; cases this
theorem rep_ne {r : List Sp} {S : Int → Prop} (h : Rep r S) {x : Int} (hx : S x) : r ≠ [] := fun e => by subst e; exact rep_nil h x hx
structure Told (want : List Sp) (ls : List Lv) (sum : Int) (rows : List Row) : Prop where
 cnt : ∀ xs, inG ls xs → cntR rows xs = if InS want (sum + valS ls xs) then 1 else 0
 ok : ∀ r ∈ rows, rowOk ls r
structure LoopB (want : List Sp) (l : Lv) (ls : List Lv) (sum : Int) (D : Int → Prop) (out last : List Row) (n : Nat) : Prop where
 cnt : ∀ x xs, InS l.g x → inG ls xs → cntR out (x :: xs) = if D x ∧ InS want (sum + (l.val x + valS ls xs)) then 1 else 0
 ok : ∀ r ∈ out, rowOk (l :: ls) r
 shape : ∃ pre U, out = pre ++ last.map (U :: ·) ∧ pre.length = n ∧ Plain U ∧ ∀ x, InS U x → InS l.g x
theorem LoopB.merge {want : List Sp} {l : Lv} {ls : List Lv} {sum : Int} {D : Int → Prop} {out last : List Row} {n : Nat} (h : LoopB want l ls sum D out last n) (hl : LvOk l) {v : Int} {S : List Sp} (hS : Rep S (fun x => InS l.g x ∧ l.val x = v))
  (hv : ∃ x, InS l.g x ∧ l.val x = v) (hD : ∀ x, InS l.g x → D x → l.val x ≠ v) (hr : Told want ls (sum + v) last) : LoopB want l ls sum (fun x => D x ∨ l.val x = v) (mergeAt n S out) last n := by
 obtain ⟨x0, hx0⟩ := hv
 obtain ⟨pre, U, rfl, rfl, hU, hUg⟩ := h.shape
 have hun : ∃ r, Rep r (fun x => InS U x ∨ InS S x) := rep_sub hl.pl _ fun x hx => by
  rcases hx with hx | hx
  ·exact hUg x hx
  ·exact ((hS.2 x).1 hx).1
 have hR := plL_rep hun
 have hRu : ∀ x, InS (unionL U S) x ↔ (InS U x ∨ InS S x) := hR.2
 rw [mergeAt_eq]
 refine ⟨fun x xs hx hxs => ?_, fun r hr2 => ?_, pre, unionL U S, rfl, rfl, hR.1, fun x hx => ?_⟩
 ·have h0 := h.cnt x xs hx hxs
  rw [cntR_append, cntR_map] at h0 ⊢
  by_cases hv : l.val x = v
  ·have h1 : InS S x := (hS.2 x).2 ⟨hx, hv⟩
   have h2 : ¬ D x := fun hd => hD x hx hd hv
   have e : sum + (l.val x + valS ls xs) = sum + v + valS ls xs := by rw [hv]; omega
   have hz : (if D x ∧ InS want (sum + (l.val x + valS ls xs)) then (1 : Nat) else 0) = 0 := if_neg (fun h => h2 h.1)
   rw [hz] at h0
   rw [if_pos ((hRu x).2 (.inr h1)), hr.cnt xs hxs, e, show cntR pre (x :: xs) = 0 by omega, Nat.zero_add]
   by_cases hw : InS want (sum + v + valS ls xs)
   ·rw [if_pos hw, if_pos ⟨.inr hv, hw⟩]
   ·rw [if_neg hw, if_neg (fun h => hw h.2)]
  ·have h1 : ¬ InS S x := fun h => hv ((hS.2 x).1 h).2
   have e : InS (unionL U S) x ↔ InS U x := by rw [hRu]; exact ⟨fun h => h.resolve_right h1, .inl⟩
   have e2 : (if InS (unionL U S) x then cntR last xs else 0) = if InS U x then cntR last xs else 0 := by
    by_cases hu : InS U x
    ·rw [if_pos hu, if_pos (e.2 hu)]
    ·rw [if_neg hu, if_neg (fun h => hu (e.1 h))]
   rw [e2, h0]
   by_cases hd : D x ∧ InS want (sum + (l.val x + valS ls xs))
   ·rw [if_pos hd, if_pos ⟨.inl hd.1, hd.2⟩]
   ·rw [if_neg hd, if_neg (fun h => hd ⟨h.1.resolve_right hv, h.2⟩)]
 ·rcases List.mem_append.1 hr2 with h1 | h1
  ·exact h.ok r (List.mem_append.2 (.inl h1))
  ·obtain ⟨q, hq, rfl⟩ := List.mem_map.1 h1
   refine ⟨⟨hR.1, rep_ne hR (.inr ((hS.2 x0).2 hx0)), fun x hx => ?_⟩, hr.ok q hq⟩
   rcases (hRu x).1 hx with hx | hx
   ·exact hUg x hx
   ·exact ((hS.2 x).1 hx).1
 ·rcases (hRu x).1 hx with hx | hx
  ·exact hUg x hx
  ·exact ((hS.2 x).1 hx).1
theorem LoopB.congr {want : List Sp} {l : Lv} {ls : List Lv} {sum : Int} {D E : Int → Prop} {out last : List Row} {n : Nat} (h : LoopB want l ls sum D out last n) (hE : ∀ x, D x ↔ E x) : LoopB want l ls sum E out last n := by
 have : D = E := funext fun x => propext (hE x)
 rw [← this]; exact h
end
end Go.Proofs.YtlmkokeapbleoaaGreat
