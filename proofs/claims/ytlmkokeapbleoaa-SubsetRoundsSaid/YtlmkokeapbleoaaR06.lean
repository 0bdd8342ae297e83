/- Plain facts: a term's inner values, place by place; all sums of a number of one set and one of another. No program in sight. Condition: none. A region that draws its order, in the round of a range over a function: what is shown of it outside of a round holds there too. A row of spans that a loop's body appends to. Condition: no defer in the region. 'out = append(out, span)' at a row of spans of the call's own, one or two spans at once, in a round too. Condition: fewer than 2^40 spans. Contract of part.Image: the plain list of the values of a set's numbers. Condition: the list at hand is known. Contract of part.taken: the numbers of some bits that are in a set when they are moved up. Condition: the bits are right, the list at hand is known. Plain facts: numbers put down one behind the other as a list of spans; a span's end moved in a row that a box holds. No function of the program in sight. Condition: none. Contract of term.together: the values of some parts of one symbol, added, of all symbols of a set. Condition: the parts are right, the set is plain, of symbols. -/
import Derived.Test.YtlmkokeapbleoaaR05
import Derived.Deep.RegionHeld3
import Derived.Deep.RegionHeld
import Derived.Maps.OwnIn
import Derived.Deep.Cut
import Derived.Deep.CutBlock
set_option maxRecDepth 100000
set_option maxHeartbeats 64000000
set_option linter.unusedVariables false
set_option linter.unusedSimpArgs false
section
namespace Go.Proofs.Ytlmkokeapbleoaa
open Go.RowKit
theorem snoc_ind {α : Type} {P : List α → Prop} (h0 : P []) (h1 : ∀ l x, P l → P (l ++ [x])) (l : List α) : P l := by
  have h : ∀ r : List α, P r.reverse := by
    intro r
    induction r with
    | nil => exact h0
    | cons x r ih => rw [List.reverse_cons]; exact h1 _ _ ih
  have := h l.reverse
  rwa [List.reverse_reverse] at this
def OneAt (l : List PartL) (a : Int) : List PartL := l.filter fun p => decide (p.1 = a)
def addP (l : List PartL) (x : Int) : Int := (l.map fun p => vP p x).sum
def TogS (l : List PartL) (s : List Sp) (v : Int) : Prop := ∃ x, Mem s x ∧ addP l x = v
def SumS (S T : Int → Prop) (v : Int) : Prop := ∃ x y, S x ∧ T y ∧ v = x + y
def plV (l : List PartL) : List Int := l.foldl (fun P p => if p.1 ∈ P then P else P ++ [p.1]) []
theorem plV_snoc (l : List PartL) (p : PartL) : plV (l ++ [p]) = if p.1 ∈ plV l then plV l else plV l ++ [p.1] := by unfold plV; rw [List.foldl_append]; rfl
theorem plV_mem (l : List PartL) (a : Int) : a ∈ plV l ↔ ∃ p ∈ l, p.1 = a := by
  induction l using snoc_ind with
  | h0 => simp [plV]
  | h1 l p ih =>
    rw [plV_snoc]
    split
    · rename_i h
      rw [ih]
      constructor
      · rintro ⟨q, hq, e⟩; exact ⟨q, List.mem_append_left _ hq, e⟩
      · rintro ⟨q, hq, e⟩
        rcases List.mem_append.1 hq with hq | hq
        · exact ⟨q, hq, e⟩
        · simp at hq; subst hq; exact ih.1 (e ▸ h)
    · rw [List.mem_append, ih]
      constructor
      · rintro (⟨q, hq, e⟩ | h)
        · exact ⟨q, List.mem_append_left _ hq, e⟩
        · simp at h; exact ⟨p, by simp, h.symm⟩
      · rintro ⟨q, hq, e⟩
        rcases List.mem_append.1 hq with hq | hq
        · exact .inl ⟨q, hq, e⟩
        · simp at hq; subst hq; right; simp [e]
theorem plV_nodup (l : List PartL) : (plV l).Nodup := by
  induction l using snoc_ind with
  | h0 => simp [plV]
  | h1 l p ih =>
    rw [plV_snoc]
    split
    · exact ih
    · rename_i h
      rw [List.nodup_append]
      exact ⟨ih, by simp, fun a ha b hb => by simp at hb; subst hb; exact fun e => h (e ▸ ha)⟩
theorem plV_len (l : List PartL) : (plV l).length ≤ l.length := by
  induction l using snoc_ind with
  | h0 => simp [plV]
  | h1 l p ih =>
    rw [plV_snoc]
    split
    · simp; omega
    · simp; omega
theorem oneAt_ne {l : List PartL} {a : Int} (h : a ∈ plV l) : OneAt l a ≠ [] := by
  obtain ⟨p, hp, e⟩ := (plV_mem l a).1 h
  intro h2
  have : p ∈ OneAt l a := List.mem_filter.2 ⟨hp, by simpa using e⟩
  rw [h2] at this; cases this
theorem oneAt_nil {l : List PartL} {a : Int} : OneAt l a = [] ↔ a ∉ plV l := by
  constructor
  · intro h h2; exact oneAt_ne h2 h
  · intro h
    unfold OneAt
    rw [List.filter_eq_nil_iff]
    intro p hp h2
    exact h ((plV_mem l a).2 ⟨p, hp, by simpa using h2⟩)
theorem oneAt_snoc (l : List PartL) (p : PartL) (a : Int) : OneAt (l ++ [p]) a = if a = p.1 then OneAt l p.1 ++ [p] else OneAt l a := by
  unfold OneAt
  rw [List.filter_append]
  split
  · rename_i h; subst h; simp
  · rename_i h
    rw [List.filter_cons_of_neg (by simpa using fun e => h e.symm)]
    simp
theorem oneAt_sub {l : List PartL} {a : Int} {p : PartL} (h : p ∈ OneAt l a) : p ∈ l ∧ p.1 = a := by
  have := List.mem_filter.1 h
  exact ⟨this.1, by simpa using this.2⟩
theorem sum_map_add {α : Type} (P : List α) (f g : α → Int) : (P.map fun a => f a + g a).sum = (P.map f).sum + (P.map g).sum := by
  induction P with
  | nil => simp
  | cons a P ih => simp only [List.map_cons, List.sum_cons, ih]; omega
theorem sum_pick {P : List Int} (hn : P.Nodup) {b : Int} (hb : b ∈ P) (g : Int → Int) : (P.map fun a => if b = a then g a else 0).sum = g b := by
  induction P with
  | nil => cases hb
  | cons a P ih =>
    rw [List.nodup_cons] at hn
    simp only [List.map_cons, List.sum_cons]
    by_cases h : b = a
    · subst h
      have h0 : (P.map fun a => if b = a then g a else 0).sum = 0 := by
        have : (P.map fun a => if b = a then g a else 0) = P.map fun _ => (0 : Int) := List.map_congr_left fun x hx => by rw [if_neg (fun e : b = x => hn.1 (e ▸ hx))]
        rw [this]
        clear this ih hb hn
        induction P with
        | nil => simp
        | cons a P ih => simp only [List.map_cons, List.sum_cons, ih]; omega
      rw [h0]; simp
    · rw [if_neg h]
      rcases List.mem_cons.1 hb with h2 | h2
      · exact absurd h2 h
      · rw [ih hn.2 h2]; omega
theorem sum_zero {α : Type} (P : List α) : (P.map fun _ => (0 : Int)).sum = 0 := by
  induction P with
  | nil => simp
  | cons a P ih => simp only [List.map_cons, List.sum_cons, ih]; omega
def outW (l : List PartL) (P : List Int) (w : List Int) : Int := (P.map fun a => addP (OneAt l a) (w.getD a.toNat 0)).sum
theorem outW_all {l : List PartL} {P : List Int} (hn : P.Nodup) (w : List Int) (hl : ∀ p ∈ l, p.1 ∈ P) : outW l P w = (l.map fun p => vP p (w.getD p.1.toNat 0)).sum := by
  induction l with
  | nil =>
    unfold outW
    rw [show (P.map fun a => addP (OneAt [] a) (w.getD a.toNat 0)) = P.map fun _ => (0 : Int) from List.map_congr_left fun a _ => by simp [OneAt, addP], sum_zero]
    simp
  | cons p l ih =>
    have ih := ih fun q hq => hl q (List.mem_cons_of_mem _ hq)
    have e : ∀ a, addP (OneAt (p :: l) a) (w.getD a.toNat 0) = (if p.1 = a then vP p (w.getD a.toNat 0) else 0) + addP (OneAt l a) (w.getD a.toNat 0) := by
      intro a
      unfold OneAt addP
      by_cases h : p.1 = a
      · rw [List.filter_cons_of_pos (by simpa using h), if_pos h]; simp
      · rw [List.filter_cons_of_neg (by simpa using h), if_neg h]; simp
    unfold outW at ih ⊢
    rw [show (fun a => addP (OneAt (p :: l) a) (w.getD a.toNat 0)) = fun a => (if p.1 = a then vP p (w.getD a.toNat 0) else 0) + addP (OneAt l a) (w.getD a.toNat 0) from funext e, sum_map_add, ih, sum_pick hn (hl p (List.mem_cons_self ..)) (fun a => vP p (w.getD a.toNat 0))]
    simp
def OutJ (s : Int) (l : List PartL) (gs : List (List Sp)) (P : List Int) (v : Int) : Prop := ∃ w, WinG gs w ∧ v = s + outW l P w
theorem outJ_zero {s : Int} {l : List PartL} {gs : List (List Sp)} (hw : ∃ w, WinG gs w) (v : Int) : OutJ s l gs [] v ↔ v = s := by
  unfold OutJ outW
  constructor
  · rintro ⟨w, _, e⟩; simpa using e
  · rintro rfl; obtain ⟨w, hw⟩ := hw; exact ⟨w, hw, by simp⟩
theorem outJ_all (t : TermL) (gs : List (List Sp)) (v : Int) : OutJ t.sum t.parts gs (plV t.parts) v ↔ InnS t gs v := by
  unfold OutJ InnS
  have h : ∀ w, t.sum + outW t.parts (plV t.parts) w = innerT t w := fun w => by
    rw [outW_all (plV_nodup _) w fun p hp => (plV_mem _ _).2 ⟨p, hp, rfl⟩]
    unfold innerT innerTo
    rw [List.take_length]
  constructor
  · rintro ⟨w, hw, rfl⟩; exact ⟨w, hw, (h w).symm⟩
  · rintro ⟨w, hw, rfl⟩; exact ⟨w, hw, (h w).symm⟩
theorem winG_set {gs : List (List Sp)} {w : List Int} (h : WinG gs w) {k : Nat} {g : List Sp} (hg : gs[k]? = some g) {x : Int} (hx : Mem g x) (h0 : 0 ≤ x ∧ x ≤ 1114111) : WinG gs (w.set k x) := by
  obtain ⟨h1, h2⟩ := h
  obtain ⟨hl, h1⟩ := (hitM_iff _ _).1 h1
  refine ⟨(hitM_iff _ _).2 ⟨by rw [List.length_set]; exact hl, fun j s y hs hy => ?_⟩, fun y hy => ?_⟩
  · rw [List.getElem?_set] at hy
    split at hy
    · rename_i e
      subst e
      split at hy
      · injection hy with hy; subst hy
        rw [hg] at hs; injection hs with hs; subst hs; exact hx
      · cases hy
    · exact h1 j s y hs hy
  · obtain ⟨j, hj⟩ := List.getElem?_of_mem hy
    rw [List.getElem?_set] at hj
    split at hj
    · split at hj
      · injection hj with hj; subst hj; exact h0
      · cases hj
    · exact h2 y (List.mem_of_getElem? hj)
theorem winG_at {gs : List (List Sp)} {w : List Int} (h : WinG gs w) {k : Nat} {g : List Sp} (hg : gs[k]? = some g) : Mem g (w.getD k 0) := by
  obtain ⟨hl, h1⟩ := (hitM_iff _ _).1 h.1
  have hk := (List.getElem?_eq_some_iff.1 hg).1
  have hx := List.getElem?_eq_getElem (l := w) (i := k) (by omega)
  have := h1 k g _ hg hx
  rwa [List.getD_eq_getElem?_getD, hx]
theorem outJ_next {s : Int} {l : List PartL} {gs : List (List Sp)} {P : List Int} {k : Nat} {g : List Sp} (hg : gs[k]? = some g) (hr : ∀ x, Mem g x → 0 ≤ x ∧ x ≤ 1114111) (hP : ∀ a ∈ P, 0 ≤ a) (hk : (k : Int) ∉ P) (v : Int) :
    OutJ s l gs (P ++ [(k : Int)]) v ↔ SumS (OutJ s l gs P) (TogS (OneAt l k) g) v := by
  have hs : ∀ w, outW l (P ++ [(k : Int)]) w = outW l P w + addP (OneAt l k) (w.getD k 0) := fun w => by
    unfold outW; rw [List.map_append, List.sum_append]; simp
  constructor
  · rintro ⟨w, hw, rfl⟩
    exact ⟨_, _, ⟨w, hw, rfl⟩, ⟨_, winG_at hw hg, rfl⟩, by rw [hs]; omega⟩
  · rintro ⟨u, y, ⟨w, hw, rfl⟩, ⟨x, hx, rfl⟩, rfl⟩
    refine ⟨w.set k x, winG_set hw hg hx (hr x hx), ?_⟩
    have hkl : k < w.length := by have := winG_len hw; have := (List.getElem?_eq_some_iff.1 hg).1; omega
    rw [hs, show (w.set k x).getD k 0 = x by rw [List.getD_eq_getElem?_getD, List.getElem?_set_self hkl]; rfl]
    have : outW l P (w.set k x) = outW l P w := by
      unfold outW
      congr 1
      refine List.map_congr_left fun a ha => ?_
      have : (w.set k x).getD a.toNat 0 = w.getD a.toNat 0 := by
        rw [List.getD_eq_getElem?_getD, List.getD_eq_getElem?_getD, List.getElem?_set_ne]
        have := hP a ha
        intro e
        exact hk (by rw [e, Int.toNat_of_nonneg this]; exact ha)
      rw [this]
    rw [this]; omega
theorem addP_bd (l : List PartL) (x : Int) : 0 ≤ addP l x ∧ addP l x ≤ l.length * 67108864 := by
  unfold addP
  induction l with
  | nil => simp
  | cons p l ih =>
    have := vNum_bd p.2.1 p.2.2.1 p.2.2.2 x
    simp only [List.map_cons, List.sum_cons, List.length_cons]
    unfold vP at ih ⊢
    omega
theorem outW_bd {l : List PartL} {P : List Int} (hn : P.Nodup) (w : List Int) : 0 ≤ outW l P w ∧ outW l P w ≤ l.length * 67108864 := by
  have h2 : ∀ l : List PartL, outW l P w ≤ l.length * 67108864 := by
    intro l
    induction l with
    | nil =>
      unfold outW
      rw [show (P.map fun a => addP (OneAt [] a) (w.getD a.toNat 0)) = P.map fun _ => (0 : Int) from List.map_congr_left fun a _ => by simp [OneAt, addP], sum_zero]
      simp
    | cons p l ih =>
      have e : ∀ a, addP (OneAt (p :: l) a) (w.getD a.toNat 0) = (if p.1 = a then vP p (w.getD a.toNat 0) else 0) + addP (OneAt l a) (w.getD a.toNat 0) := by
        intro a
        unfold OneAt addP
        by_cases h : p.1 = a
        · rw [List.filter_cons_of_pos (by simpa using h), if_pos h]; simp
        · rw [List.filter_cons_of_neg (by simpa using h), if_neg h]; simp
      have hb := vNum_bd p.2.1 p.2.2.1 p.2.2.2 (w.getD p.1.toNat 0)
      unfold outW at ih ⊢
      rw [show (fun a => addP (OneAt (p :: l) a) (w.getD a.toNat 0)) = fun a => (if p.1 = a then vP p (w.getD a.toNat 0) else 0) + addP (OneAt l a) (w.getD a.toNat 0) from funext e, sum_map_add]
      simp only [List.length_cons]
      by_cases hp : p.1 ∈ P
      · rw [sum_pick hn hp (fun a => vP p (w.getD a.toNat 0))]
        unfold vP
        omega
      · rw [show (P.map fun a => if p.1 = a then vP p (w.getD a.toNat 0) else 0) = P.map fun _ => (0 : Int) from List.map_congr_left fun a ha => by rw [if_neg (fun e : p.1 = a => hp (e ▸ ha))], sum_zero]
        omega
  have h1 : 0 ≤ outW l P w := by
    clear h2 hn
    unfold outW
    induction P with
    | nil => simp
    | cons a P ih =>
      have := addP_bd (OneAt l a) (w.getD a.toNat 0)
      simp only [List.map_cons, List.sum_cons]
      omega
  exact ⟨h1, h2 l⟩
theorem outJ_bd {s : Int} (hs : SmallN s) {l : List PartL} (hl : l.length ≤ 4) {gs : List (List Sp)} {P : List Int} (hn : P.Nodup) {v : Int} (h : OutJ s l gs P v) : -1114111 ≤ v ∧ v ≤ 269549567 := by
  obtain ⟨w, _, rfl⟩ := h
  have := outW_bd (l := l) hn w
  obtain ⟨h1, h2⟩ := hs
  omega
theorem togS_bd {l : List PartL} (hl : l.length ≤ 4) {s : List Sp} {v : Int} (h : TogS l s v) : 0 ≤ v ∧ v ≤ 268435456 := by
  obtain ⟨x, _, rfl⟩ := h
  have := addP_bd l x
  omega
theorem oneAt_len (l : List PartL) (a : Int) : (OneAt l a).length ≤ l.length := List.length_filter_le ..
theorem togS_one {p : PartL} (hp : bitsB p.2.1 p.2.2.1 p.2.2.2 = true) {s : List Sp} (hs : ∀ x, Mem s x → 0 ≤ x ∧ x ≤ 1114111) (v : Int) : TogS [p] s v ↔ ImgS p.2.1 p.2.2.1 p.2.2.2 s v := by
  have hv : ∀ x, 0 ≤ x → x ≤ 2097151 → addP [p] x = pval p.2.1 p.2.2.1 p.2.2.2 x := fun x h0 h1 => by
    unfold addP vP vNum
    rw [List.map_cons, List.map_nil, List.sum_cons, List.sum_nil, if_pos ((vOk_iff _ _ _ _).2 ⟨hp, h0, h1⟩)]
    omega
  unfold TogS ImgS
  constructor
  · rintro ⟨x, hx, rfl⟩
    have := hs x hx
    exact ⟨hp, x, hx, this.1, by omega, (hv x this.1 (by omega)).symm⟩
  · rintro ⟨_, x, hx, h0, h1, rfl⟩
    exact ⟨x, hx, hv x h0 h1⟩
def PlS (a b : List Sp) (i j : Nat) (v : Int) : Prop := ∃ p q : Sp, ((p ∈ a.take i ∧ q ∈ b) ∨ (a[i]? = some p ∧ q ∈ b.take j)) ∧ p.1 + q.1 ≤ v ∧ v ≤ p.2 + q.2
theorem plS_start (a b : List Sp) (v : Int) : ¬ PlS a b 0 0 v := by
  rintro ⟨p, q, h, _⟩
  rcases h with ⟨h, _⟩ | ⟨_, h⟩ <;> simp at h
theorem plS_next {a b : List Sp} {i j : Nat} {p q : Sp} (hp : a[i]? = some p) (hq : b[j]? = some q) (v : Int) : PlS a b i (j + 1) v ↔ (PlS a b i j v ∨ (p.1 + q.1 ≤ v ∧ v ≤ p.2 + q.2)) := by
  unfold PlS
  constructor
  · rintro ⟨p', q', h, h2⟩
    rcases h with h | ⟨h, h3⟩
    · exact .inl ⟨p', q', .inl h, h2⟩
    · rw [hp] at h; injection h with h; subst h
      rw [take_snoc? hq] at h3
      rcases List.mem_append.1 h3 with h3 | h3
      · exact .inl ⟨p, q', .inr ⟨hp, h3⟩, h2⟩
      · simp at h3; subst h3; exact .inr h2
  · rintro (⟨p', q', h, h2⟩ | h2)
    · rcases h with h | ⟨h, h3⟩
      · exact ⟨p', q', .inl h, h2⟩
      · exact ⟨p', q', .inr ⟨h, by rw [take_snoc? hq]; exact List.mem_append_left _ h3⟩, h2⟩
    · exact ⟨p, q, .inr ⟨hp, by rw [take_snoc? hq]; simp⟩, h2⟩
theorem plS_row {a b : List Sp} {i : Nat} {p : Sp} (hp : a[i]? = some p) (v : Int) : PlS a b i b.length v ↔ PlS a b (i + 1) 0 v := by
  unfold PlS
  constructor
  · rintro ⟨p', q', h, h2⟩
    refine ⟨p', q', .inl ?_, h2⟩
    rw [take_snoc? hp]
    rcases h with ⟨h, h3⟩ | ⟨h, h3⟩
    · exact ⟨List.mem_append_left _ h, h3⟩
    · rw [hp] at h; injection h with h; subst h
      rw [List.take_length] at h3
      exact ⟨by simp, h3⟩
  · rintro ⟨p', q', h, h2⟩
    rcases h with ⟨h, h3⟩ | ⟨_, h⟩
    · rw [take_snoc? hp] at h
      rcases List.mem_append.1 h with h | h
      · exact ⟨p', q', .inl ⟨h, h3⟩, h2⟩
      · simp at h; subst h
        exact ⟨p', q', .inr ⟨hp, by rw [List.take_length]; exact h3⟩, h2⟩
    · simp at h
theorem plS_done {a b : List Sp} (ha : Plain a) (hb : Plain b) (v : Int) : PlS a b a.length 0 v ↔ SumS (Mem a) (Mem b) v := by
  unfold PlS SumS
  constructor
  · rintro ⟨p, q, h, h1, h2⟩
    rcases h with ⟨h, h3⟩ | ⟨_, h⟩
    · rw [List.take_length] at h
      have hp := PlainF.spw ha (Int.le_refl _) p h
      have hq := PlainF.spw hb (Int.le_refl _) q h3
      by_cases hc : v ≤ p.1 + q.2
      · exact ⟨p.1, v - p.1, (ha.mem _).2 ((InS_iff _ _).2 ⟨p, h, Int.le_refl _, hp.2.1⟩), (hb.mem _).2 ((InS_iff _ _).2 ⟨q, h3, by omega, by omega⟩), by omega⟩
      · exact ⟨v - q.2, q.2, (ha.mem _).2 ((InS_iff _ _).2 ⟨p, h, by omega, by omega⟩), (hb.mem _).2 ((InS_iff _ _).2 ⟨q, h3, by omega, by omega⟩), by omega⟩
    · simp at h
  · rintro ⟨x, y, hx, hy, rfl⟩
    obtain ⟨p, hp, h1⟩ := (InS_iff _ _).1 ((ha.mem _).1 hx)
    obtain ⟨q, hq, h2⟩ := (InS_iff _ _).1 ((hb.mem _).1 hy)
    exact ⟨p, q, .inl ⟨by rw [List.take_length]; exact hp, hq⟩, by omega, by omega⟩
theorem mem_app (o : List Sp) (p : Sp) (x : Int) : Mem (o ++ [p]) x ↔ (Mem o x ∨ (-1073741824 ≤ x ∧ x ≤ 1073741824 ∧ p.1 ≤ x ∧ x ≤ p.2)) := by
  unfold Mem
  rw [InS_append]
  simp only [InS, or_false]
  constructor
  · rintro ⟨h1, h2, h | h⟩
    · exact .inl ⟨h1, h2, h⟩
    · exact .inr ⟨h1, h2, h⟩
  · rintro (⟨h1, h2, h⟩ | ⟨h1, h2, h⟩)
    · exact ⟨h1, h2, .inl h⟩
    · exact ⟨h1, h2, .inr h⟩
end Go.Proofs.Ytlmkokeapbleoaa
end
section
namespace Go.Proofs.Ytlmkokeapbleoaa
open Go.RowKit Go.Shelf
attribute [local go_sem] Oper.semAt_some
def noDefer (o : Oper) : Bool := match o.op with | .defer _ => false | _ => true
theorem noDefer.spec {o : Oper} (h : noDefer o = true) : ∀ c, o.op ≠ .defer c := by
  intro c e
  unfold noDefer at h
  rw [e] at h
  cases h
theorem rows_in {P : Program} {row : String} {args : Array Value} {w : World} {R : Value → World → Prop} (l n : Nat) (h : Rows P row args w R) : RowsIn (Fence.wide.inRound l) n P row args w R :=
  fun c cs _ => let ⟨v, w', r, s⟩ := h c cs; ⟨v, w', r, stepsIn_wide.2 s⟩
theorem oper_round {P : Program} {o : Oper} {a : Act} {w : World} {K : Act → World → Prop} {Q : Exit → Act → World → Prop} (l n : Nat) (hnd : ∀ c, o.op ≠ .defer c) (h : o.wp P a w K Q) :
    o.wpIn (Fence.wide.inRound l) n P a w K Q := by
  refine ⟨fun f _ => trivial, ?_⟩
  rw [show (Fence.wide.inRound l).round = some l from rfl, Oper.semAt_some l _ _ hnd]
  unfold Oper.wp at h
  generalize (execOp a.eval o).run P w = r at *
  cases r with
  | ok x w' =>
    cases x <;> simp only [Oper.upon, Oper.uponIn] at h ⊢
    all_goals first
      | exact h
      | exact CallsIn.inRound l (callsIn_wide.2 h)
      | exact rows_in l _ h
      | (refine ⟨?_, CallsIn.inRound l (callsIn_wide.2 h)⟩; simp [Fence.wide])
      | (refine ⟨?_, rows_in l _ h⟩; simp [Fence.wide])
  | halt x w' => cases x <;> simp only [Oper.upon, Oper.uponIn] at h ⊢ <;> exact h
theorem ops_round {P : Program} {ops : Array Oper} {Q : Exit → Act → World → Prop} (l n : Nat) (hnd : ops.all noDefer = true) (hQ : ∀ a w, ¬ Q .outgrown a w) (L : List Nat) :
    ∀ (a : Act) (w : World), wpOps P ops Q L a w → wpOpsIn (Fence.wide.inRound l) n P ops Q L a w := by
  induction L with
  | nil => exact fun a w h => h
  | cons i L ih =>
    intro a w h
    simp only [wpOps] at h
    simp only [wpOpsIn]
    cases ho : ops[i]? with
    | none => rw [ho] at h; exact ih _ _ h
    | some o =>
      rw [ho] at h
      simp only at h ⊢
      have hd : noDefer o = true := by
        obtain ⟨hi, he⟩ := Array.getElem?_eq_some_iff.1 ho
        exact he ▸ (Array.all_eq_true.1 hnd) i hi
      split at h
      · rename_i hw
        rw [if_pos hw]
        rcases h with h | ⟨_, a', w', h⟩
        · exact Oper.wpIn_mono (fun a w => ih a w) (oper_round l n (noDefer.spec hd) h)
        · exact absurd h (hQ a' w')
      · rename_i hw
        rw [if_neg hw]
        exact ⟨fun f _ => trivial, ih _ _ h⟩
theorem region_round {P : Program} {id : Nat} {ops : Array Oper} {Q : Exit → Act → World → Prop} {a : Act} {w : World} {l n : Nat} (hnd : ops.all noDefer = true) (hQ : ∀ a w, ¬ Q .outgrown a w) (hm : P.follows .mixedOrders = true)
    (h : wpAny P .any ops Q ops.size (Array.replicate ops.size false) a { w with drawn := w.drawn + 1 }) : (Code.region id ops true).wpIn (Fence.wide.inRound l) n P Q a w :=
  wpIn_region_draw fun t => by
    simp only [Region.schedule, hm, Bool.true_or, if_true]
    exact ops_round l n hnd hQ _ _ _ (wpAny_sound ops.size t _ a _ h)
theorem region_round_held {P : Program} {id : Nat} {ops : Array Oper} {Q : Exit → Act → World → Prop} {a : Act} {w : World} {l n : Nat} (hnd : ops.all noDefer = true) (hQ : ∀ a w, ¬ Q .outgrown a w) (hm : P.follows .mixedOrders = true)
    (S : World → Prop) (hS : S w.drew) (h : S w.drew → wpAnyH P .any ops Q S ops.size (Array.replicate ops.size false) a w.drew) : (Code.region id ops true).wpIn (Fence.wide.inRound l) n P Q a w :=
  region_round hnd hQ hm (wpAny_of_held _ _ _ _ (h hS))
theorem wp_rangeFunc {P : Program} {α : Type} {g : Operand} {ps : Array Tmp} {assign body : Code} {Q : Exit → Act → World → Prop} {a : Act} {w : World}
    {gf : Nat} {lb : Array Value} (hg : a.eval g = .func (.func gf) #[] lb) (eg : ∀ args w, (callFunc gf args).run P w = .ok (.enter gf args) w)
    {encs : α → Array Value} {Kp : World → World → Prop} {S Sp : List α → Prop} {N : Nat} (hseq : SeqStopsK Fence.wide 7 P gf lb encs Kp S Sp N w)
    (hKt : ∀ {A B C : World}, Kp A B → Kp B C → Kp A C) (hKb : ∀ (W : World) (l : Nat) (o o' : Obj), w.heap.size ≤ l → W.heap[l]? = some o → o.isCells = false → o.isWalk = false → Kp W (W.putObj l o')) (hps : ∀ x, (encs x).size = ps.size)
    (I : List α → World → Prop) (Ix : Code → List α → World → Prop) (hI : OwnFrom w.heap.size I) (hIx : ∀ c, OwnFrom w.heap.size (Ix c)) (h0 : I [] w) (a₁ : α → Act)
    (hassign : ∀ (l : Nat) (x : α) (W : World) (K : Act → World → Prop), K (a₁ x) W →
      assign.wpIn (Fence.wide.inRound l) 6 P (Exit.then K (fun _ _ _ => False)) { tmps := (ps.zip (encs x)).foldl (fun t (p, v) => t.setIfInBounds p v) a.tmps, defers := [] } W)
    (hbody : ∀ (l : Nat) (pre : List α) (x : α) (W : World), I pre W → pre.length < N → body.wpIn (Fence.wide.inRound l) 6 P (ownPostK Kp I Ix (pre ++ [x]) W) (a₁ x) W)
    (hdone : ∀ (D : Nat) (xs : List α) (W : World), w.heap.size ≤ D → S xs → I xs W → W.heap[D]? = some (.deferred (some [])) → Q .normal { a with defers := { target := .collected D, args := #[] } :: a.defers } W)
    (hstop : ∀ (D : Nat) (c : Code) (pre : List α) (W : World), w.heap.size ≤ D → Sp pre → Ix c pre W → W.heap[D]? = some (.deferred (some [])) → c.wp P Q { a with defers := { target := .collected D, args := #[] } :: a.defers } W) :
    (Code.rangeFunc g ps assign body).wp P Q a w :=
  (wpIn_wide (n := 8)).1 (wpIn_rangeFunc_ownF (F := Fence.wide) rfl (by omega) hg trivial eg hseq hKt hKb (Below.refl _ _) hps I Ix hI hIx h0 a₁ hassign hbody hdone
    (fun D c pre W h1 h2 h3 h4 => (wpIn_wide (n := 8)).2 (hstop D c pre W h1 h2 h3 h4)))
theorem cellAlloc {w : World} (o : Obj) {p : Addr} {v : Value} (h : w.cell? p = some v) : (w.alloc o).cell? p = some v := (World.cell?_alloc_lt w o p (World.block_lt_of_cell? w p h)).trans h
theorem KpB.store {lo hi Bu : Nat} {W : World} (q b : Nat) (v : Value) (h1 : lo ≤ b) (h2 : b < hi) (hne : b ≠ Bu) : KpB lo hi Bu W ((W.drewN q).setCell ⟨b, 0, none⟩ v) :=
  (show KpB lo hi Bu W (W.drewN q) from KpB.same (Nat.le_refl _) (fun _ _ h _ => h) rfl).trans (KpB.setCell (W := W.drewN q) b v h1 h2 hne)
theorem KpB.pushed {lo hi Bu : Nat} {W w0 W3 : World} {A A' : Option Addr} {n c n' c' base : Nat} {xs ys : List Value} (h1 : lo ≤ Bu) (h2 : Bu < hi) (hv : W.cell? ⟨Bu, 0, none⟩ = some (.slice A n c))
    (hb : Below W.heap.size W w0) (ho0 : w0.ownsRow base 35 2 (.slice A n c) n ys) (hg : w0.grownBy W3 (Value.ownBlock (.slice A n c)))
    (hat : Value.ownBlock (.slice A' n' c') = Value.ownBlock (.slice A n c) ∨ Value.ownBlock (.slice A' n' c') = some w0.heap.size)
    (ho : W3.ownsRow base 35 2 (.slice A' n' c') n' xs) (hbase : hi ≤ base) :
    KpB lo hi Bu W (W3.setCell ⟨Bu, 0, none⟩ (.slice A' n' c')) ∧ (W3.setCell ⟨Bu, 0, none⟩ (.slice A' n' c')).cell? ⟨Bu, 0, none⟩ = some (.slice A' n' c') ∧ (W3.setCell ⟨Bu, 0, none⟩ (.slice A' n' c')).ownsRow base 35 2 (.slice A' n' c') n' xs := by
  have hBu := lt_of_cell hv
  have hs1 := hb.size
  have hs2 := hg.size
  have hne : some Bu ≠ Value.ownBlock (.slice A n c) := fun e => by have := ho0.lt Bu e.symm; omega
  have hcB : W3.cell? ⟨Bu, 0, none⟩ = some (.slice A n c) := (World.cell?_of_block (hg.block Bu (by omega) hne)).trans ((hb.cell (p := ⟨Bu, 0, none⟩) hBu).trans hv)
  have hc4 : (W3.setCell ⟨Bu, 0, none⟩ (.slice A' n' c')).cell? ⟨Bu, 0, none⟩ = some (.slice A' n' c') := World.cell?_setCell_same' _ _ _ (by rw [hcB]; rfl)
  have hsz : (W3.setCell ⟨Bu, 0, none⟩ (.slice A' n' c')).heap.size = W3.heap.size := by simp
  have key : ∀ k, OwnB lo hi Bu (W3.setCell ⟨Bu, 0, none⟩ (.slice A' n' c')) k → OwnB lo hi Bu W k ∨ (k = w0.heap.size ∧ k < W3.heap.size) := by
    rintro k (h | ⟨off, m, d, h⟩)
    · exact .inl (.inl h)
    · rw [hc4] at h
      injection h with h
      injection h with e1 e2 e3
      subst e1
      have hlt := (ho.lt k rfl).2
      rcases hat with h | h
      · left; right
        rcases ho0.2 with ⟨e, _⟩ | ⟨g, cap, cur, e, _⟩
        · injection e with e1; subst e1; simp [Value.ownBlock] at h
        · injection e with e1 e4 e5
          subst e1
          simp [Value.ownBlock] at h
          subst h
          exact ⟨0, n, c, hv⟩
      · right
        simp [Value.ownBlock] at h
        exact ⟨h, hlt⟩
  refine ⟨⟨by rw [hsz]; omega, fun p u hu hno => ?_, fun k hk => ?_, fun hw k hk => ?_⟩, hc4, ?_⟩
  · have hp := World.block_lt_of_cell? W p hu
    have hpB : Bu ≠ p.block := fun e => hno (.inl (by omega))
    have hpo : some p.block ≠ Value.ownBlock (.slice A n c) := by
      intro e
      refine hno (.inr ?_)
      rcases ho0.2 with ⟨e', _⟩ | ⟨g, cap, cur, e', _⟩
      · injection e' with e1; subst e1; simp [Value.ownBlock] at e
      · injection e' with e1 e4 e5
        subst e1
        simp [Value.ownBlock] at e
        rw [e]
        exact ⟨0, n, c, hv⟩
    rw [World.cell?_setCell_far _ _ _ _ hpB]
    exact hg.cell ((hb.cell hp).trans hu) hpo
  · rcases key k hk with h | h
    · exact .inl h
    · right; omega
  · rw [hsz]
    rcases key k hk with h | h
    · have := hw k h; omega
    · exact h.2
  · exact ownsRow_setCell_below ho (a := ⟨Bu, 0, none⟩) (by show Bu < base; omega) _
end Go.Proofs.Ytlmkokeapbleoaa
end
section
namespace Go.Proofs.Ytlmkokeapbleoaa
open Go.RowKit Go.Shelf
def SRow (w : World) (base : Nat) (A : Option Addr) (c : Nat) (l : List Sp) : Prop := w.ownsRow base 35 2 (.slice A l.length c) l.length (spanCells l)
theorem SRow.start (w : World) (base : Nat) : SRow w base none 0 [] := World.ownsRow_nil _ _ _ _
theorem SRow.spans {w : World} {base : Nat} {A : Option Addr} {c : Nat} {l : List Sp} (h : SRow w base A c l) : Spans w A l.length l := Sl.of_own h
theorem SRow.alloc {w : World} {base : Nat} {A : Option Addr} {c : Nat} {l : List Sp} (h : SRow w base A c l) (o : Obj) : SRow (w.alloc o) base A c l := World.ownsRow.alloc h o
theorem SRow.drewN {w : World} {base : Nat} {A : Option Addr} {c : Nat} {l : List Sp} (h : SRow w base A c l) (q : Nat) : SRow (w.drewN q) base A c l := h
theorem SRow.drew {w : World} {base : Nat} {A : Option Addr} {c : Nat} {l : List Sp} (h : SRow w base A c l) : SRow w.drew base A c l := h
theorem SRow.pushed {B : Nat} {W w0 w' : World} {o : Obj} {base : Nat} {A : Option Addr} {c : Nat} {l : List Sp} (hb : Below B W w0) (hown : SRow w0 base A c l) (hB : B ≤ base) (hB' : B ≤ w0.heap.size)
    (hg : (w0.alloc o).grownBy w' (Value.ownBlock (.slice A l.length c))) : Below B W w' := below_pushed hb hown hB hB' hg
theorem SRow.lit (w : World) (base : Nat) (p1 p2 : Int) (h : base ≤ w.heap.size) : SRow (w.alloc (.cells #[.int .i64 p1, .int .i64 p2] 35)) base (some ⟨w.heap.size, 0, none⟩) 1 [(p1, p2)] :=
  ⟨rfl, .inr ⟨w.heap.size, 1, _, rfl, h, heap_alloc_new w _, Nat.le_refl _, by unfold maxLen; omega, rfl, rfl⟩⟩
theorem SRow.lit' {w : World} {base B : Nat} {p1 p2 : Int} (hB : B = w.heap.size) (h : base ≤ w.heap.size) : SRow (w.alloc (.cells #[.int .i64 p1, .int .i64 p2] 35)) base (some ⟨B, 0, none⟩) 1 [(p1, p2)] := by
  subst hB; exact SRow.lit w base p1 p2 h
section
variable {w0 : World} {ops : Array Oper} {rest : List Oper} {o : Oper} {a : Act} {Q : Exit → Act → World → Prop} {base : Nat} {A : Option Addr} {c : Nat} {l : List Sp}
theorem wpList_pushS (hgd : o.guard = none) (s x : Operand) (ho : o.op = .call { callee := .builtin .append, args := #[s, x], argTypes := #[36, 36] })
    (hown : SRow w0 base A c l) (hs : a.eval s = .slice A l.length c) {p1 p2 : Int} (hx : a.eval x = .slice (some ⟨w0.heap.size, 0, none⟩) 1 1) (hn : l.length < 1099511627776) (hbase : base ≤ w0.heap.size)
    (h : ∀ (l' : List Sp) A' c' w', Hid (l' = l ++ [(p1, p2)]) → Hid (SRow w' base A' c' l') → Hid ((w0.alloc (.cells #[.int .i64 p1, .int .i64 p2] 35)).grownBy w' (Value.ownBlock (.slice A l.length c))) →
      Hid (Value.ownBlock (.slice A' l'.length c') = Value.ownBlock (.slice A l.length c) ∨ Value.ownBlock (.slice A' l'.length c') = some (w0.heap.size + 1)) → wpList Try.prog ops Q rest (a.put o.dst (.slice A' l'.length c')) w') :
    wpList Try.prog ops Q (o :: rest) a (w0.alloc (.cells #[.int .i64 p1, .int .i64 p2] 35)) := by
  obtain ⟨i0, hi, hz0, hz1, hz2⟩ := info_parts info59
  have hs0 : (w0.alloc (.cells #[.int .i64 p1, .int .i64 p2] 35)).heap.size = w0.heap.size + 1 := by simp
  refine wpList_append_own_at _ hgd s x 36 ho base 35 i0 _ 2 16 Try.underlying36 hi hz0 hz1 hz2 rfl (by decide) _ l.length (spanCells l) hs (hown.alloc _) ⟨w0.heap.size, 0, none⟩ 1 1 [.int .i64 p1, .int .i64 p2] hx rfl ?_ (one2 rfl rfl)
    (by unfold maxLen; omega) (by omega) (by rw [hs0]; omega) ?_
  · exact World.news_of_block (cs := #[.int .i64 p1, .int .i64 p2]) (t := 35) (fr := (0, 0)) (heap_alloc_new w0 _)
  · intro v' w' hown' hg _ hat
    obtain ⟨A', c', rfl⟩ := own_shape hown'
    have e : (l ++ [(p1, p2)]).length = l.length + 1 := by simp
    rw [hs0] at hat
    rw [← e] at hown' hat ⊢
    exact h _ A' c' w' rfl (by unfold Hid SRow; rw [spanCells_append]; exact hown') hg hat
theorem wpList_pushS2 (hgd : o.guard = none) (s x : Operand) (ho : o.op = .call { callee := .builtin .append, args := #[s, x], argTypes := #[36, 36] })
    (hown : SRow w0 base A c l) (hs : a.eval s = .slice A l.length c) {p1 p2 q1 q2 : Int} (hx : a.eval x = .slice (some ⟨w0.heap.size, 0, none⟩) 2 2) (hn : l.length < 1099511627776) (hbase : base ≤ w0.heap.size)
    (h : ∀ (l' : List Sp) A' c' w', Hid (l' = l ++ [(p1, p2), (q1, q2)]) → Hid (SRow w' base A' c' l') → Hid ((w0.alloc (.cells #[.int .i64 p1, .int .i64 p2, .int .i64 q1, .int .i64 q2] 35)).grownBy w' (Value.ownBlock (.slice A l.length c))) →
      Hid (Value.ownBlock (.slice A' l'.length c') = Value.ownBlock (.slice A l.length c) ∨ Value.ownBlock (.slice A' l'.length c') = some (w0.heap.size + 1)) → wpList Try.prog ops Q rest (a.put o.dst (.slice A' l'.length c')) w') :
    wpList Try.prog ops Q (o :: rest) a (w0.alloc (.cells #[.int .i64 p1, .int .i64 p2, .int .i64 q1, .int .i64 q2] 35)) := by
  obtain ⟨i0, hi, hz0, hz1, hz2⟩ := info_parts info59
  have hs0 : (w0.alloc (.cells #[.int .i64 p1, .int .i64 p2, .int .i64 q1, .int .i64 q2] 35)).heap.size = w0.heap.size + 1 := by simp
  refine wpList_append_own_at _ hgd s x 36 ho base 35 i0 _ 2 16 Try.underlying36 hi hz0 hz1 hz2 rfl (by decide) _ l.length (spanCells l) hs (hown.alloc _) ⟨w0.heap.size, 0, none⟩ 2 2 [.int .i64 p1, .int .i64 p2, .int .i64 q1, .int .i64 q2] hx rfl ?_ (by intro u hu; simp at hu; rcases hu with rfl | rfl | rfl | rfl <;> rfl)
    (by unfold maxLen; omega) (by omega) (by rw [hs0]; omega) ?_
  · exact World.news_of_block (cs := #[.int .i64 p1, .int .i64 p2, .int .i64 q1, .int .i64 q2]) (t := 35) (fr := (0, 0)) (heap_alloc_new w0 _)
  · intro v' w' hown' hg _ hat
    obtain ⟨A', c', rfl⟩ := own_shape hown'
    have e : (l ++ [(p1, p2), (q1, q2)]).length = l.length + 2 := by simp
    rw [hs0] at hat
    rw [← e] at hown' hat ⊢
    exact h _ A' c' w' rfl (by unfold Hid SRow; rw [spanCells_append]; exact hown') hg hat
theorem wpListIn_pushS {F : Fence} {nF : Nat} (hgd : o.guard = none) (s x : Operand) (ho : o.op = .call { callee := .builtin .append, args := #[s, x], argTypes := #[36, 36] })
    (hown : SRow w0 base A c l) (hs : a.eval s = .slice A l.length c) {p1 p2 : Int} (hx : a.eval x = .slice (some ⟨w0.heap.size, 0, none⟩) 1 1) (hn : l.length < 1099511627776) (hbase : base ≤ w0.heap.size)
    (h : ∀ (l' : List Sp) A' c' w', Hid (l' = l ++ [(p1, p2)]) → Hid (SRow w' base A' c' l') → Hid ((w0.alloc (.cells #[.int .i64 p1, .int .i64 p2] 35)).grownBy w' (Value.ownBlock (.slice A l.length c))) →
      Hid (Value.ownBlock (.slice A' l'.length c') = Value.ownBlock (.slice A l.length c) ∨ Value.ownBlock (.slice A' l'.length c') = some (w0.heap.size + 1)) → wpListIn F nF Try.prog ops Q rest (a.put o.dst (.slice A' l'.length c')) w') :
    wpListIn F nF Try.prog ops Q (o :: rest) a (w0.alloc (.cells #[.int .i64 p1, .int .i64 p2] 35)) := by
  obtain ⟨i0, hi, hz0, hz1, hz2⟩ := info_parts info59
  have hs0 : (w0.alloc (.cells #[.int .i64 p1, .int .i64 p2] 35)).heap.size = w0.heap.size + 1 := by simp
  refine Go.wpListIn_append_own_at _ hgd s x 36 ho base 35 i0 _ 2 16 Try.underlying36 hi hz0 hz1 hz2 rfl (by decide) _ l.length (spanCells l) hs (hown.alloc _) ⟨w0.heap.size, 0, none⟩ 1 1 [.int .i64 p1, .int .i64 p2] hx rfl ?_ (one2 rfl rfl)
    (by unfold maxLen; omega) (by omega) (by rw [hs0]; omega) ?_
  · exact World.news_of_block (cs := #[.int .i64 p1, .int .i64 p2]) (t := 35) (fr := (0, 0)) (heap_alloc_new w0 _)
  · intro v' w' hown' hg _ hat
    obtain ⟨A', c', rfl⟩ := own_shape hown'
    have e : (l ++ [(p1, p2)]).length = l.length + 1 := by simp
    rw [hs0] at hat
    rw [← e] at hown' hat ⊢
    exact h _ A' c' w' rfl (by unfold Hid SRow; rw [spanCells_append]; exact hown') hg hat
theorem wp_pushS (hgd : o.guard = none) (s x : Operand) (ho : o.op = .call { callee := .builtin .append, args := #[s, x], argTypes := #[36, 36] })
    (hown : SRow w0 base A c l) (hs : a.eval s = .slice A l.length c) {p1 p2 : Int} (hx : a.eval x = .slice (some ⟨w0.heap.size, 0, none⟩) 1 1) (hn : l.length < 1099511627776) (hbase : base ≤ w0.heap.size) {K : Act → World → Prop}
    (h : ∀ (l' : List Sp) A' c' w', Hid (l' = l ++ [(p1, p2)]) → Hid (SRow w' base A' c' l') → Hid ((w0.alloc (.cells #[.int .i64 p1, .int .i64 p2] 35)).grownBy w' (Value.ownBlock (.slice A l.length c))) →
      Hid (Value.ownBlock (.slice A' l'.length c') = Value.ownBlock (.slice A l.length c) ∨ Value.ownBlock (.slice A' l'.length c') = some (w0.heap.size + 1)) → K (a.put o.dst (.slice A' l'.length c')) w') :
    o.wp Try.prog a (w0.alloc (.cells #[.int .i64 p1, .int .i64 p2] 35)) K Q := by
  obtain ⟨i0, hi, hz0, hz1, hz2⟩ := info_parts info59
  have hs0 : (w0.alloc (.cells #[.int .i64 p1, .int .i64 p2] 35)).heap.size = w0.heap.size + 1 := by simp
  obtain ⟨v', w', hr, hown', hg, _, hat⟩ := run_append_own_at (P := Try.prog) (w0.alloc (.cells #[.int .i64 p1, .int .i64 p2] 35)) base 36 o.type 35 i0 _ 2 16 Try.underlying36 hi hz0 hz1 hz2 rfl (by decide) (.slice A l.length c) l.length (spanCells l) (hown.alloc _) ⟨w0.heap.size, 0, none⟩ 1 1 [.int .i64 p1, .int .i64 p2] rfl
    (World.news_of_block (cs := #[.int .i64 p1, .int .i64 p2]) (t := 35) (fr := (0, 0)) (heap_alloc_new w0 _)) (one2 rfl rfl) (by unfold maxLen; omega) (by omega) (by rw [hs0]; omega)
  unfold Oper.wp execOp
  simp only [ho, resolve, invoke, builtin, Sem.run_bind, Sem.run_pure, Result.andThen_ok, List.map_toArray, List.map_cons, List.map_nil, hs, hx, hr]
  obtain ⟨A', c', rfl⟩ := own_shape hown'
  have e : (l ++ [(p1, p2)]).length = l.length + 1 := by simp
  rw [hs0] at hat
  rw [← e] at hown' hat ⊢
  exact h _ A' c' w' rfl (by unfold Hid SRow; rw [spanCells_append]; exact hown') hg hat
end
theorem leaveM_nil {P : Program} {F : Fence} {n : Nat} {fn : Func} {tmps : Array Value} {R : Ending → World → Prop} {w : World} (v : Value) (h : (results fn tmps).run P w = .ok v w) (hR : R (.returned v) w) : LeavesInM F n P fn tmps R [] .returning w := ⟨v, h, hR⟩
theorem leaveM_mark {P : Program} {F : Fence} {n : Nat} {fn : Func} {tmps : Array Value} {R : Ending → World → Prop} {w : World} {D : Nat} (v : Value) (hD : w.heap[D]? = some (.deferred (some []))) (h : ∀ w', (results fn tmps).run P w' = .ok v w')
    (hR : R (.returned v) (w.putObj D (.deferred none))) : LeavesInM F n P fn tmps R [{ target := .collected D, args := #[] }] .returning w :=
  ⟨by simp, .inl ⟨_, _, rfl, run_takeDeferred hD, v, h _, hR⟩⟩
theorem St.mark {w0 w1 w : World} {F : World → Prop} {A : Option Addr} {r : List Sp} {D : Nat} (h : St w0 w1 F) (hb : Below w1.heap.size w1 w) (hL : Lst A r w) (hD : w1.heap.size ≤ D) (hK : w.heap[D]? = some (.deferred (some []))) :
    St w0 (w.putObj D (.deferred none)) (fun W => Lst A r W ∧ F W) := by
  have hg := grownBy_putObj' w D (.deferred none)
  have hb' : Below w1.heap.size w1 (w.putObj D (.deferred none)) := hb.grown hg hb.size (fun k e => by cases e; exact hD)
  refine h.add hb' (fun W hW => ?_)
  refine Lst.below ⟨⟨hL.sp.1, fun hn => ?_⟩, hL.wd, hL.len⟩ hW
  obtain ⟨b, off, e, hc⟩ := hL.sp.2 hn
  exact ⟨b, off, e, fun j u hu => cell_kept (hc j u hu) hg (fun r e => by cases e; exact ⟨_, hK, rfl⟩)⟩
def BoxRow (Bu base : Nat) (o : List Sp) (W : World) : Prop := ∃ A c, W.cell? ⟨Bu, 0, none⟩ = some (.slice A o.length c) ∧ W.frozen? ⟨Bu, 0, none⟩ = false ∧ SRow W base A c o
theorem BoxRow.own {β : Type} (B Bu base : Nat) (f : β → List Sp) : OwnFrom B (fun s W => BoxRow Bu base (f s) W) := by
  rintro s X Y row ⟨A, c, h1, h2, h3⟩ hg hr
  refine ⟨A, c, cell_kept h1 hg (fun r e => (hr r e).2), (frozen_kept h1 hg (fun r e => (hr r e).2)).trans h2, ?_⟩
  refine h3.kept hg ?_
  rcases hb : Value.ownBlock (.slice A (f s).length c) with _ | g
  · exact .inl rfl
  · right
    intro e
    obtain ⟨_, o, ho, hc⟩ := hr g e.symm
    rcases h3.2 with ⟨e', _⟩ | ⟨g', cap, cur, e', _, hgg, _⟩
    · rw [e'] at hb; simp [Value.ownBlock] at hb
    · rw [e'] at hb
      simp [Value.ownBlock] at hb
      subst hb
      rw [hgg] at ho
      cases ho
      cases hc
theorem BoxRow.new (w : World) (base : Nat) : BoxRow w.heap.size base [] (w.alloc (.cells #[.slice none 0 0] 36)) := by
  have hb := heap_alloc_new w (.cells #[.slice none 0 0] 36)
  refine ⟨none, 0, ?_, ?_, SRow.start _ _⟩
  · simp only [World.cell?, hb]; rfl
  · unfold World.frozen?; rw [hb]; simp
theorem BoxRow.push {lo hi Bu base : Nat} {W w0 W3 : World} {A A' : Option Addr} {c c' : Nat} {o l' : List Sp} {ob : Obj} (h1 : lo ≤ Bu) (h2 : Bu < hi) (h3 : hi ≤ base) (hv : W.cell? ⟨Bu, 0, none⟩ = some (.slice A o.length c)) (hf : W.frozen? ⟨Bu, 0, none⟩ = false)
    (ho : SRow W base A c o) (hb : Below W.heap.size W w0) (hob : ob.isCells = true) (HO : SRow W3 base A' c' l') (HG : (w0.alloc ob).grownBy W3 (Value.ownBlock (.slice A o.length c)))
    (HAT : Value.ownBlock (.slice A' l'.length c') = Value.ownBlock (.slice A o.length c) ∨ Value.ownBlock (.slice A' l'.length c') = some (w0.heap.size + 1)) :
    KeepsOthers W (W3.setCell ⟨Bu, 0, none⟩ (.slice A' l'.length c')) ∧ KpB lo hi Bu W (W3.setCell ⟨Bu, 0, none⟩ (.slice A' l'.length c')) ∧ BoxRow Bu base l' (W3.setCell ⟨Bu, 0, none⟩ (.slice A' l'.length c')) ∧
      Below lo W (W3.setCell ⟨Bu, 0, none⟩ (.slice A' l'.length c')) := by
  have hBu := lt_of_cell hv
  have hba : Below W.heap.size W (w0.alloc ob) := hb.alloc hb.size _
  have hs0 : (w0.alloc ob).heap.size = w0.heap.size + 1 := by simp
  have hrow : SRow w0 base A c o := by
    refine ⟨ho.1, ?_⟩
    rcases ho.2 with h | ⟨g, cap, cur, e, hg1, hg2, hg3⟩
    · exact .inl h
    · exact .inr ⟨g, cap, cur, e, hg1, (hb.block g (Array.getElem?_eq_some_iff.1 hg2).1).trans hg2, hg3⟩
  have hrowa : SRow (w0.alloc ob) base A c o := hrow.alloc _
  obtain ⟨k1, k2, k3⟩ := KpB.pushed (lo := lo) (hi := hi) h1 h2 hv hba hrowa HG (by rw [hs0]; exact HAT) HO h3
  have hne : some Bu ≠ Value.ownBlock (.slice A o.length c) := fun e => by have := ho.lt Bu e.symm; omega
  have hgb : ∀ k, Value.ownBlock (.slice A o.length c) = some k → lo ≤ k := fun k e => by have := ho.lt k e; omega
  refine ⟨?_, k1, ⟨A', c', k2, ?_, k3⟩, ?_⟩
  · have q1 : KeepsOthers W w0 := ⟨hb.size, fun k o hk _ => (hb.block k (Array.getElem?_eq_some_iff.1 hk).1).trans hk⟩
    refine ((q1.trans (KeepsOthers.alloc w0 ob)).trans (KeepsOthers.of_grownBy HG ?_)).trans (KeepsOthers.setCell _ _ _)
    intro j oj hj hoj
    rcases hrowa.2 with ⟨e', _⟩ | ⟨g', cap, cur, e', _, hgg, _⟩
    · rw [e'] at hj; simp [Value.ownBlock] at hj
    · rw [e'] at hj
      simp [Value.ownBlock] at hj
      subst hj
      rw [hgg] at hoj
      cases hoj
      rfl
  · rw [World.frozen?_setCell]
    exact (World.frozen?_of_block (HG.block Bu (by have := hba.size; omega) hne)).trans ((hba.frozen (p := ⟨Bu, 0, none⟩) hBu).trans hf)
  · have q2 : Below lo W (w0.alloc ob) := hba.mono (by omega)
    exact (q2.grown HG (by have := hba.size; omega) hgb).setCell (p := ⟨Bu, 0, none⟩) h1 _
theorem SRow.below {W w : World} {base : Nat} {A : Option Addr} {c : Nat} {l : List Sp} (h : SRow W base A c l) (hb : Below W.heap.size W w) : SRow w base A c l := by
  refine ⟨h.1, ?_⟩
  rcases h.2 with h | ⟨g, cap, cur, e, hg1, hg2, hg3⟩
  · exact .inl h
  · exact .inr ⟨g, cap, cur, e, hg1, (hb.block g (Array.getElem?_eq_some_iff.1 hg2).1).trans hg2, hg3⟩
theorem keeps_below {W w : World} (hb : Below W.heap.size W w) : KeepsOthers W w := ⟨hb.size, fun k o hk _ => (hb.block k (Array.getElem?_eq_some_iff.1 hk).1).trans hk⟩
theorem each_box {ro : List Sp} (hp : Plain ro) {w5 w6 : World} {B g c6 : Nat} (hE : (w5.alloc (.cells #[.slice none 0 0] 36)).heap.size ≤ B ∧ B < w6.heap.size ∧ (w5.alloc (.cells #[.slice none 0 0] 36)).heap.size ≤ g ∧ g < B)
    (hcB : w6.cell? ⟨B, 0, none⟩ = some (.slice (some ⟨g, 0, none⟩) ro.length c6)) (hsp : Spans w6 (some ⟨g, 0, none⟩) ro.length ro) (hb6 : Below (w5.alloc (.cells #[.slice none 0 0] 36)).heap.size (w5.alloc (.cells #[.slice none 0 0] 36)) w6) :
    Below w5.heap.size w5 w6 ∧ BoxRow w5.heap.size (w5.heap.size + 1) [] w6 ∧ w5.heap.size + 2 < w6.heap.size ∧
    SeqStopsK Fence.wide 7 Try.prog 91 #[.pointer (some ⟨B, 0, none⟩)] (fun x : Int => #[Value.int .i64 x]) (KpB w5.heap.size (w5.heap.size + 1) w5.heap.size) (fun ys => ys = nums ro) (fun pre => pre <+: nums ro) (nums ro).length w6 := by
  have hsz : (w5.alloc (.cells #[.slice none 0 0] 36)).heap.size = w5.heap.size + 1 := by simp
  rw [hsz] at hE
  have HW5 := (Below.refl w5.heap.size w5).alloc (Nat.le_refl _) (.cells #[.slice none 0 0] 36)
  have hb := heap_alloc_new w5 (.cells #[.slice none 0 0] 36)
  have hc : w6.cell? ⟨w5.heap.size, 0, none⟩ = some (.slice none 0 0) := by
    rw [hb6.cell (p := ⟨w5.heap.size, 0, none⟩) (by simp)]
    simp only [World.cell?, hb]; rfl
  have hf : w6.frozen? ⟨w5.heap.size, 0, none⟩ = false := by
    rw [hb6.frozen (p := ⟨w5.heap.size, 0, none⟩) (by simp)]
    unfold World.frozen?; rw [hb]; simp
  have hno : ∀ k, OwnB w5.heap.size (w5.heap.size + 1) w5.heap.size w6 k ↔ k = w5.heap.size := by
    intro k
    unfold OwnB
    rw [hc]
    simp; omega
  exact ⟨HW5.trans (hb6.mono (by simp)), ⟨none, 0, hc, hf, SRow.start _ _⟩, by omega,
    each_stops Fence.wide 7 trivial rfl (by omega) w5.heap.size (w5.heap.size + 1) w5.heap.size B g c6 ro hp w6 (by omega) (fun k hk => by have := (hno k).1 hk; omega) (fun hk => by have := (hno g).1 hk; omega) hcB (by omega) hsp⟩
end Go.Proofs.Ytlmkokeapbleoaa
end
section
namespace Go.Proofs.Ytlmkokeapbleoaa
open Go.RowKit Go.Shelf
attribute [local go_sem] Oper.semAt_some
def PBox (S : Nat) (a d t u : Int) (W : World) : Prop := W.cell? ⟨S, 0, none⟩ = some (.int .i64 a) ∧ W.cell? ⟨S, 1, none⟩ = some (.int .i64 d) ∧ W.cell? ⟨S, 2, none⟩ = some (.int .i64 t) ∧ W.cell? ⟨S, 3, none⟩ = some (.int .i64 u)
theorem St.pbox {w0 w : World} {F : World → Prop} (hK : Hid (St w0 w F)) (a d t u : Int) : Hid (St w0 (w.alloc (.cells #[.int .i64 a, .int .i64 d, .int .i64 t, .int .i64 u] 125)) (fun W => PBox w.heap.size a d t u W ∧ F W)) := by
  refine Lib.hid (hK.out.add ((Below.refl _ _).alloc (Nat.le_refl _) _) (fun W hW => ?_))
  have hb := heap_alloc_new w (.cells #[.int .i64 a, .int .i64 d, .int .i64 t, .int .i64 u] 125)
  have key : ∀ j v, (#[.int .i64 a, .int .i64 d, .int .i64 t, .int .i64 u] : Array Value)[j]? = some v → W.cell? ⟨w.heap.size, j, none⟩ = some v := by
    intro j v hj
    rw [hW.cell (p := ⟨w.heap.size, j, none⟩) (by simp)]
    simp only [World.cell?, hb]
    exact hj
  exact ⟨key 0 _ rfl, key 1 _ rfl, key 2 _ rfl, key 3 _ rfl⟩
theorem bits_st {w0 w : World} {F : World → Prop} (hK : Hid (St w0 w F)) (a d t u : Int) {v : Bool} (hv : bitsB d t u = v) : Calls Try.prog 82 #[.agg #[.int .i64 a, .int .i64 d, .int .i64 t, .int .i64 u]] w (RetV w0 (.bool v) F) := by
  subst hv; exact retV_gives hK (bits_any a d t u w)
def shlV (u v : Int) : Int := IntKind.i64.wrap (v * 2 ^ u.toNat)
theorem rep_none {r : List Sp} {S : Int → Prop} (h : Rep r S) (hS : ∀ x, ¬ S x) : r = [] :=
  Rep.unique h (S := S) (T := fun _ => False) ⟨trivial, fun x => Iff.rfl⟩ (fun x => by simp [hS x])
theorem retL_nil {w0 w : World} {F : World → Prop} (hK : Hid (St w0 w F)) : RetL w0 [] F (.returned (.slice none 0 0)) w :=
  ⟨none, 0, rfl, Lib.hid (hK.out.weaken fun W h => ⟨⟨Sl.nil_ _ _ _, fun p hp => (by cases hp), by simp⟩, h⟩)⟩
theorem band_T {t lo T : Int} (hT : Hid (pw t = T)) (h0 : 0 ≤ lo) (h1 : lo ≤ 2097151) (t0 : 0 ≤ t) (t1 : t ≤ 21) : bits .and .i64 lo (T - 1) = lo % T := by
  rw [← hT.out]; exact band_mask h0 (by omega) t0 t1
section
variable {w0 w : World} {F : World → Prop} {A : Option Addr} {a0 r : List Sp}
theorem Image_st (hK : Hid (St w0 w F)) (ha : ∀ W, F W → Lst A a0 W) (c : Nat) (a d t u : Int) (hr : Hid (Rep r (ImgS d t u a0))) :
    Calls Try.prog 72 #[.agg #[.int .i64 a, .int .i64 d, .int .i64 t, .int .i64 u], .slice A a0.length c] w (RetL w0 r F) := by
  have HK := St.pbox hK a d t u
  rcases hb : bitsB d t u with _ | _
  · obtain rfl := rep_none hr.out (fun x h => by have := h.1; rw [hb] at this; cases this)
    have HBB := Lib.hid hb
    clear hb
    go_enter Try.func72, Try.ntmps72
    go_wp2_with fail
    refine (bits_st HK a d t u HBB.out).mono ?_
    rintro e w1 ⟨rfl, HK⟩
    go_wp2_with fail
    go_ret
    exact retL_nil (Lib.hid (HK.out.weaken fun W h => h.2))
  have HBB := Lib.hid hb
  obtain ⟨b1, b2, b3, b4, b5, b6, b7⟩ := (bitsB_iff _ _ _).1 hb
  obtain ⟨m, Rm⟩ := rep_meet a0 [(0, 2097151)]
  have RM : Hid (Rep m (topM a0)) := Rm
  have hml := topM_len RM.out
  obtain ⟨T, hT⟩ : ∃ T, (2 : Int) ^ t.toNat = T := ⟨_, rfl⟩
  have HT : Hid (pw t = T) := Lib.hid hT
  obtain ⟨D, hD⟩ : ∃ D, (2 : Int) ^ d.toNat = D := ⟨_, rfl⟩
  have HD : Hid (pw d = D) := Lib.hid hD
  have hT1 : 1 ≤ T ∧ T ≤ 2097152 := by have h1 := pw_pos t; have h2 := pw_le21 (n := t) (by omega) b4; rw [HT.out] at h1 h2; exact ⟨h1, h2⟩
  have hD1 : 1 ≤ D := by have h1 := pw_pos d; rw [HD.out] at h1; exact h1
  obtain ⟨hT1, hT2⟩ := hT1
  clear hb b7
  refine (callsIn_wide (n := 8)).1 ?_
  refine callsIn_of_wp_marks Try.func72 rfl trivial ?_ rfl
  refine wpIn_wide.2 ?_
  simp only [Try.ntmps72, List.size_toArray, List.length_cons, List.length_nil, Nat.reduceAdd, Nat.reduceSub, Array.replicate_succ, Array.replicate_zero, List.push_toArray, List.append_toArray, List.nil_append, List.cons_append]
  go_wp2_with fail
  refine (bits_st HK a d t u HBB.out).mono ?_
  rintro e w1 ⟨rfl, HK⟩
  obtain ⟨hp0, hp1, hp2, hp3⟩ := HK.out.now.1
  go_wp2_with fail
  have HK := St.lit HK (0, 2097151) (by intro p hp; simp at hp; subst hp; simp)
  refine (Meet_st HK (fun _ h => ha _ h.2.2) (fun _ h => h.1) _ _ Rm).mono ?_
  rintro e w3 ⟨A1, c1, rfl, HK⟩
  clear hp0 hp1 hp2 hp3
  go_upto_block 0 with fail
  go_cut [6] from 13 (fun v wr => ∃ (o : List Sp) (Ao : Option Addr) (co : Nat), v = .slice Ao o.length co ∧ o.length ≤ 2097153 ∧ Hid (SRow wr w3.heap.size Ao co o) ∧ Hid (ImInv D T m o) ∧ Hid (Below w3.heap.size w3 wr))
  case first =>
    go_wp2_with fail
    go_loopw [6, 25] (fun v i wr => ∃ (k : Nat) (o : List Sp) (Ao : Option Addr) (co : Nat), k ≤ m.length ∧ i = .int .i64 k ∧ v = .slice Ao o.length co ∧ o.length ≤ 2 * k ∧ Hid (SRow wr w3.heap.size Ao co o) ∧ Hid (ImInv D T (m.take k) o) ∧ Hid (Below w3.heap.size w3 wr)) (fun _ i _ => m.length - (intOf i).toNat)
    case atStart => exact ⟨0, [], none, 0, Nat.zero_le _, rfl, rfl, by simp, Lib.hid (SRow.start _ _), Lib.hid (ImInv.start _ _), Lib.hid (Below.refl _ _)⟩
    case round =>
    obtain ⟨k, o, Ao, co, hk, rfl, rfl, hol, HO, HI, HB⟩ := hrel
    have HS := Lib.hid (HK.out.step HB.out)
    by_cases hlt : k < m.length
    · obtain ⟨g, off, p, hA, hp, hc1, hc2⟩ := HS.out.now.1.sp.at_ hlt
      obtain ⟨x1, x2⟩ := p
      obtain ⟨hx0, hx12, hx2⟩ := topM_mem RM.out hp
      obtain ⟨hp0, hp1, hp2, hp3⟩ := HS.out.now.2.2.1
      have HP := Lib.hid hp
      simp only at hc1 hc2
      obtain ⟨lo, hlo⟩ : ∃ z, x1 / D = z := ⟨_, rfl⟩
      obtain ⟨hi, hhi⟩ : ∃ z, x2 / D = z := ⟨_, rfl⟩
      have HLO := Lib.hid hlo
      have HHI := Lib.hid hhi
      have hlo0 : 0 ≤ lo := by rw [← hlo]; exact Int.ediv_nonneg hx0 (by omega)
      have hlh : lo ≤ hi := by rw [← hlo, ← hhi]; exact Int.ediv_le_ediv (by omega) hx12
      have hhi2 : hi ≤ 2097151 := by rw [← hhi]; exact Int.le_trans (Int.ediv_le_self _ (by omega)) hx2
      obtain ⟨la, hla⟩ : ∃ z, bits BinOp.and IntKind.i64 lo (T - 1) = z := ⟨_, rfl⟩
      obtain ⟨lb, hlb⟩ : ∃ z, bits BinOp.and IntKind.i64 hi (T - 1) = z := ⟨_, rfl⟩
      have HLA : Hid (lo % T = la) := by unfold Hid; rw [← hla]; exact (band_T HT hlo0 (by omega) (by omega) b4).symm
      have HLB : Hid (hi % T = lb) := by unfold Hid; rw [← hlb]; exact (band_T HT (by omega) hhi2 (by omega) b4).symm
      have hgw := lt_of_cell hc1
      have hbw := lt_of_cell hp1
      subst hA
      clear hp
      by_cases hfull : T - 1 ≤ hi - lo
      · go_wp2_with (go_quiet (fail))
        go_meet
        case rel =>
          exact ⟨[(0, T - 1)], _, _, rfl, by simp, Lib.hid (SRow.lit' (by simp) (by have := HB.out.size; simp; omega)), Lib.hid (ImInv.full hD1 hT1 HP.out hx12 (by rw [HLO.out, HHI.out]; exact hfull)),
            Lib.hid ((below_drewN (HB.out.alloc HB.out.size _) _).alloc (by have := HB.out.size; simp; omega) _)⟩
      · have hnf : ¬ (T - 1 ≤ hi - lo) := hfull
        by_cases hle : la ≤ lb
        · go_wp2_with (first | go_quiet (fail) | (at_builtin; go_must (refine wpList_pushS rfl _ _ rfl (((HO.out.alloc _).drewN _)) rfl (by first | rfl | (simp; rfl) | simp) (by omega) (by have := HB.out.size; simp; omega) ?_); intro l2 A2 c2 w5 HL2 HO2 HG2 _))
          have HI2 := Lib.hid (HI.out.one hD1 hT1 HP.out hx12 (by rw [HLO.out, HHI.out]; omega) (by rw [HLO.out, HHI.out, HLA.out, HLB.out]; exact hle))
          rw [HLO.out, HHI.out, HLA.out, HLB.out, ← HL2.out] at HI2
          have hl2 : l2.length = o.length + 1 := by rw [HL2.out]; simp
          refine ⟨⟨k + 1, l2, A2, c2, by omega, by go_num, rfl, by omega, HO2, HI2, Lib.hid (SRow.pushed (below_drewN (HB.out.alloc HB.out.size _) _) ((HO.out.alloc _).drewN _) (Nat.le_refl _) (by have := HB.out.size; simp; omega) HG2.out)⟩, by simp [intOf]; omega⟩
        · go_wp2_with (first | go_quiet (fail) | (at_builtin; go_must (refine wpList_pushS2 rfl _ _ rfl (((HO.out.alloc _).drewN _)) rfl (by first | rfl | (simp; rfl) | simp) (by omega) (by have := HB.out.size; simp; omega) ?_); intro l2 A2 c2 w5 HL2 HO2 HG2 _))
          have HI2 := Lib.hid (HI.out.two hD1 hT1 HP.out hx12 (by rw [HLO.out, HHI.out]; omega) (by rw [HLO.out, HHI.out, HLA.out, HLB.out]; exact hle))
          rw [HLO.out, HHI.out, HLA.out, HLB.out, ← HL2.out] at HI2
          have hl2 : l2.length = o.length + 2 := by rw [HL2.out]; simp
          refine ⟨⟨k + 1, l2, A2, c2, by omega, by go_num, rfl, by omega, HO2, HI2, Lib.hid (SRow.pushed (below_drewN (HB.out.alloc HB.out.size _) _) ((HO.out.alloc _).drewN _) (Nat.le_refl _) (by have := HB.out.size; simp; omega) HG2.out)⟩, by simp [intOf]; omega⟩
    · obtain rfl : k = m.length := by omega
      have hd : decide (m.length < m.length) = false := by simp
      have HIm := Lib.hid HI.out
      rw [List.take_length] at HIm
      go_wp2_with fail
      go_meet
      case rel => exact ⟨o, Ao, co, rfl, by omega, HO, HIm, HB⟩
  case rest =>
    obtain ⟨o, Ao, co, rfl, hol, HO, HI, HB⟩ := hcut
    have hwd : SpW o := fun p hp => by have := HI.out.2 p hp; omega
    have HK4 := Lib.hid (HK.out.add (G := fun W => True) HB.out (fun W hW => trivial))
    have HK := Lib.hid (HK4.out.add (Below.refl _ _) (G := Lst Ao o) (fun W hW => ⟨HO.out.spans.below hW, hwd, by omega⟩))
    obtain ⟨ro, Ro⟩ := rep_norm o
    go_wp2_with fail
    refine (Norm_st HK (fun _ h => h.1) _ Ro).mono ?_
    rintro e w5 ⟨A5, c5, rfl, HK⟩
    obtain ⟨hp0, hp1, hp2, hp3⟩ := HK.out.now.2.2.2.2.2.1
    have hps := lt_of_cell hp3
    by_cases hu : u = 0
    · subst hu
      have HIp : Hid (ImInv (pw d) (pw t) m o) := by unfold Hid; rw [HD.out, HT.out]; exact HI.out
      obtain rfl := Rep.unique (HIp.out.rep0 HBB.out RM.out Ro.out) hr.out (fun _ => Iff.rfl)
      go_wp2_with fail
      refine leaveM_nil (.slice A5 ro.length c5) (by simp [results, Try.f72, go_sem]) ?_
      exact ⟨_, _, rfl, Lib.hid (HK.out.weaken fun W h => ⟨h.1, h.2.2.2.2.2.2⟩)⟩
    · have hu0 : (u == 0) = false := by simpa using hu
      have hnl : (nums ro).length ≤ 2147483650 := by have h1 := nums_length Ro.out.1; have h2 := Ro.out.1.cnt_bd; omega
      have hSr : Hid (Rep ro (Mem ro)) := Lib.hid (Rep.self Ro.out.1)
      have HW5 := Lib.hid ((Below.refl w5.heap.size w5).alloc (Nat.le_refl _) (.cells #[.slice none 0 0] 36))
      have HBN := Lib.hid (BoxRow.new w5 (w5.heap.size + 1))
      have HKA := Lib.hid (HK.out.add HW5.out (G := fun W => True) (fun _ _ => trivial))
      have HE := Lib.hid (Each_any A5 ro.length c5 ro ro (w5.alloc (.cells #[.slice none 0 0] 36)) HKA.out.now.2.1.sp HKA.out.now.2.1.wd HKA.out.now.2.1.len hSr.out)
      go_wp2_with fail
      refine HE.out.mono ?_
      rintro e w6 ⟨B, g, c6, rfl, hbd, hcB, hsp, hb6⟩
      have HB6 := Lib.hid (show Below w5.heap.size w5 w6 from HW5.out.trans (hb6.mono (by simp)))
      have hsz : (w5.alloc (.cells #[.slice none 0 0] 36)).heap.size = w5.heap.size + 1 := by simp
      rw [hsz] at hbd
      obtain ⟨Ab, cb, hbx, hbf, hbr⟩ := HBN.out
      have hbx6 := (hb6.cell (lt_of_cell hbx)).trans hbx
      have hbf6 := (hb6.frozen (lt_of_cell hbx)).trans hbf
      have HB0 : Hid (BoxRow w5.heap.size (w5.heap.size + 1) [] w6) := by
        refine ⟨none, 0, ?_, hbf6, SRow.start _ _⟩
        rw [hb6.cell (p := ⟨w5.heap.size, 0, none⟩) (by simp)]
        have hb := heap_alloc_new w5 (.cells #[.slice none 0 0] 36)
        simp only [World.cell?, hb]; rfl
      have hno : ∀ k, OwnB w5.heap.size (w5.heap.size + 1) w5.heap.size w6 k ↔ k = w5.heap.size := by
        intro k
        obtain ⟨A0, c0, q1, _, q3⟩ := HB0.out
        have : w6.cell? ⟨w5.heap.size, 0, none⟩ = some (.slice none 0 0) := by
          rw [hb6.cell (p := ⟨w5.heap.size, 0, none⟩) (by simp)]
          have hb := heap_alloc_new w5 (.cells #[.slice none 0 0] 36)
          simp only [World.cell?, hb]; rfl
        unfold OwnB
        rw [this]
        simp; omega
      have HSQ := Lib.hid (each_stops Fence.wide 7 trivial rfl (by omega) w5.heap.size (w5.heap.size + 1) w5.heap.size B g c6 ro hSr.out.1 w6 (by omega) (fun k hk => by have := (hno k).1 hk; omega) (fun hk => by have := (hno g).1 hk; omega) hcB (by omega) hsp)
      clear hno hcB hsp hb6 HE hbx hbf hbx6 hbf6 hbr
      go_wp2_with fail
      refine wp_rangeFunc (gf := 91) (lb := #[.pointer (some ⟨B, 0, none⟩)]) rfl (enters_of Try.func91 (by kernel_rfl) rfl) HSQ.out kpB_t (kpB_b (by omega)) (fun _ => rfl)
        (fun pre W => BoxRow w5.heap.size (w5.heap.size + 1) (pre.map fun v => (shlV u v, shlV u v)) W ∧ (pre.length ≤ (nums ro).length ∧ Below w5.heap.size w5 W))
        (fun _ _ _ => False)
        (OwnFrom.and (BoxRow.own _ _ _ _) (OwnFrom.and (ownFrom_pure _ _) (ownFrom_below (Nat.le_refl _) (by omega))))
        (fun _ _ _ _ _ h _ _ => h)
        ⟨HB0.out, Nat.zero_le _, HB6.out⟩
        ?act ?assign ?body ?done ?stop
      case assign =>
        intro l x W K hK
        gi_wp2
        exact hK
      case body =>
        rintro l pre x W ⟨hbr, hlen1, hbW⟩ hlen
        obtain ⟨Ab, cb, hv, hf, hrow⟩ := hbr
        obtain ⟨hp0, hp1, hp2, hp3⟩ := (HK.out.step hbW).now.2.2.2.2.2.1
        gi_wp2
        obtain ⟨y, hy⟩ : ∃ y, IntKind.i64.wrap (x * 2 ^ u.toNat) = y := ⟨_, rfl⟩
        obtain ⟨o, ho⟩ : ∃ o, o = pre.map fun v => (shlV u v, shlV u v) := ⟨_, rfl⟩
        rw [← ho] at hv hrow
        have hol : o.length < 1099511627776 := by rw [ho, List.length_map]; omega
        have HOE := Lib.hid ho
        have HROW := Lib.hid hrow
        have HBW := Lib.hid hbW
        clear ho hrow hbW
        refine region_round_held (by kernel_rfl) (fun _ _ h => h) (by kernel_rfl) (fun w' => w'.cell? ⟨w.heap.size, 3, none⟩ = some (.int .i64 u)) hp3 (fun hHeld => ?_)
        refine wpAnyH_take (i := 1) (v := ?_) rfl (by kernel_rfl) (by kernel_rfl) (by kernel_rfl) (fun _ _ _ h => h) (Or.inl ⟨by first | kernel_rfl | rfl, ?_⟩) (by assumption) ?_
        rotate_left
        · intro w hSw; (try dsimp only at hSw); go_simp; (try with_reducible rfl)
        (try simp only [Act.put, List.getElem_toArray, List.getElem_cons_succ, List.getElem_cons_zero, List.setIfInBounds_toArray, List.set_cons_zero, List.set_cons_succ])
        refine wpAnyH_take (i := 2) (v := ?_) rfl (by kernel_rfl) (by kernel_rfl) (by kernel_rfl) (fun _ _ _ h => h) (Or.inl ⟨by first | kernel_rfl | rfl, ?_⟩) (by assumption) ?_
        rotate_left
        · intro w hSw; (try dsimp only at hSw); go_simp; (try with_reducible rfl)
        (try simp only [Act.put, List.getElem_toArray, List.getElem_cons_succ, List.getElem_cons_zero, List.setIfInBounds_toArray, List.set_cons_zero, List.set_cons_succ])
        refine wpAnyH_take (i := 3) (v := ?_) rfl (by kernel_rfl) (by kernel_rfl) (by kernel_rfl) (fun _ _ _ h => h) (Or.inl ⟨by first | kernel_rfl | rfl, ?_⟩) (by assumption) ?_
        rotate_left
        · intro w hSw; (try dsimp only at hSw); go_simp; (try with_reducible rfl)
        (try simp only [Act.put, List.getElem_toArray, List.getElem_cons_succ, List.getElem_cons_zero, List.setIfInBounds_toArray, List.set_cons_zero, List.set_cons_succ])
        refine wpAnyH_take (i := 4) (v := ?_) rfl (by kernel_rfl) (by kernel_rfl) (by kernel_rfl) (fun _ _ _ h => h) (Or.inl ⟨by first | kernel_rfl | rfl, ?_⟩) (by assumption) ?_
        rotate_left
        · intro w hSw; (try dsimp only at hSw); go_simp; (try with_reducible rfl)
        (try simp only [Act.put, List.getElem_toArray, List.getElem_cons_succ, List.getElem_cons_zero, List.setIfInBounds_toArray, List.set_cons_zero, List.set_cons_succ])
        refine wpAnyH_take (i := 5) (v := ?_) rfl (by kernel_rfl) (by kernel_rfl) (by kernel_rfl) (fun _ _ _ h => h) (Or.inl ⟨by first | kernel_rfl | rfl, ?_⟩) (by assumption) ?_
        rotate_left
        · intro w hSw; (try dsimp only at hSw); go_simp; (try with_reducible rfl)
        (try simp only [Act.put, List.getElem_toArray, List.getElem_cons_succ, List.getElem_cons_zero, List.setIfInBounds_toArray, List.set_cons_zero, List.set_cons_succ])
        refine wpAnyH_take (i := 6) (v := ?_) rfl (by kernel_rfl) (by kernel_rfl) (by kernel_rfl) (fun _ _ _ h => h) (Or.inl ⟨by first | kernel_rfl | rfl, ?_⟩) (by assumption) ?_
        rotate_left
        · intro w hSw; (try dsimp only at hSw); go_simp; (try with_reducible rfl)
        (try simp only [Act.put, List.getElem_toArray, List.getElem_cons_succ, List.getElem_cons_zero, List.setIfInBounds_toArray, List.set_cons_zero, List.set_cons_succ])
        refine wpAnyH_take (i := 7) (v := ?_) rfl (by kernel_rfl) (by kernel_rfl) (by kernel_rfl) (fun _ _ _ h => h) (Or.inl ⟨by first | kernel_rfl | rfl, ?_⟩) (by assumption) ?_
        rotate_left
        · intro w hSw; (try dsimp only at hSw); go_simp; (try with_reducible rfl)
        (try simp only [Act.put, List.getElem_toArray, List.getElem_cons_succ, List.getElem_cons_zero, List.setIfInBounds_toArray, List.set_cons_zero, List.set_cons_succ])
        refine wpAnyH_take (i := 8) (v := ?_) rfl (by kernel_rfl) (by kernel_rfl) (by kernel_rfl) (fun _ _ _ h => h) (Or.inl ⟨by first | kernel_rfl | rfl, ?_⟩) (by assumption) ?_
        rotate_left
        · intro w hSw; (try dsimp only at hSw); go_simp; (try with_reducible rfl)
        (try simp only [Act.put, List.getElem_toArray, List.getElem_cons_succ, List.getElem_cons_zero, List.setIfInBounds_toArray, List.set_cons_zero, List.set_cons_succ])
        refine wpAnyH_take (i := 9) (v := ?_) rfl (by kernel_rfl) (by kernel_rfl) (by kernel_rfl) (fun _ _ _ h => h) (Or.inl ⟨by first | kernel_rfl | rfl, ?_⟩) (by assumption) ?_
        rotate_left
        · intro w hSw; (try dsimp only at hSw); go_simp; (try with_reducible rfl)
        (try simp only [Act.put, List.getElem_toArray, List.getElem_cons_succ, List.getElem_cons_zero, List.setIfInBounds_toArray, List.set_cons_zero, List.set_cons_succ])
        refine wpAnyH_ready (rs := [0, 10]) (by kernel_rfl) (by simp) (AllReadyH.cons rfl (fun K hK => ?_) (AllReadyH.cons rfl (fun K hK => ?_) AllReadyH.nil))
        go_simp
        refine hK.out _ _ (hp3) (fun hHeld => ?_)
        clear hK K
        (try simp only [Act.put, List.getElem_toArray, List.getElem_cons_succ, List.getElem_cons_zero, List.setIfInBounds_toArray, List.set_cons_zero, List.set_cons_succ])
        refine wpAnyH_ready (rs := [10]) (by kernel_rfl) (by simp) (AllReadyH.cons rfl (fun K hK => ?_) AllReadyH.nil)
        go_simp
        refine hK.out _ _ (cellAlloc _ hp3) (fun hHeld => ?_)
        clear hK K
        (try simp only [Act.put, List.getElem_toArray, List.getElem_cons_succ, List.getElem_cons_zero, List.setIfInBounds_toArray, List.set_cons_zero, List.set_cons_succ])
        rotate_left
        go_simp
        refine hK.out _ _ (cellAlloc _ hp3) (fun hHeld => ?_)
        clear hK K
        (try simp only [Act.put, List.getElem_toArray, List.getElem_cons_succ, List.getElem_cons_zero, List.setIfInBounds_toArray, List.set_cons_zero, List.set_cons_succ])
        have hva : (W.alloc (.cells #[.int .i64 y, .int .i64 y] 35)).cell? ⟨w5.heap.size, 0, none⟩ = some (.slice Ab o.length cb) := cellAlloc _ hv
        refine wpAnyH_ready (rs := [0]) (by kernel_rfl) (by simp) (AllReadyH.cons rfl (fun K hK => ?_) AllReadyH.nil)
        go_simp
        refine hK.out _ _ (cellAlloc _ hp3) (fun hHeld => ?_)
        clear hK K
        (try simp only [Act.put, List.getElem_toArray, List.getElem_cons_succ, List.getElem_cons_zero, List.setIfInBounds_toArray, List.set_cons_zero, List.set_cons_succ])
        clear hva
        all_goals
          refine wpAnyH_ready (rs := [11]) (by kernel_rfl) (by simp) (AllReadyH.cons rfl (fun K hK => ?_) AllReadyH.nil)
          rw [if_pos (by rfl)]
          refine wp_pushS (w0 := W.drew) rfl _ _ rfl HROW.out.drew rfl rfl hol (by have := lt_of_cell hv; simp; omega) ?_
          intro l2 A2 c2 w7 HL2 HO2 HG2 HAT2
          have HPU := Lib.hid (BoxRow.push (lo := w5.heap.size) (hi := w5.heap.size + 1) (Nat.le_refl _) (by omega) (Nat.le_refl _) hv hf HROW.out (w0 := W.drew) (ob := .cells #[.int .i64 y, .int .i64 y] 35) (below_drewN (Below.refl _ _) 1) rfl HO2.out HG2.out HAT2.out)
          have hbx7 : w7.cell? ⟨w5.heap.size, 0, none⟩ = some (.slice Ab o.length cb) := by
            refine HG2.out.cell (cellAlloc _ hv) (fun e => ?_)
            have := HROW.out.lt _ e.symm
            simp at this; omega
          have hbf7 : w7.frozen? ⟨w5.heap.size, 0, none⟩ = false := by
            have := HPU.out.2.2.1
            obtain ⟨A8, c8, q1, q2, q3⟩ := this
            rwa [World.frozen?_setCell] at q2
          have hpx7 : w7.cell? ⟨w.heap.size, 3, none⟩ = some (.int .i64 u) := by
            refine HG2.out.cell (cellAlloc _ hp3) (fun e => ?_)
            have := HROW.out.lt _ e.symm
            simp at *; omega
          have hpx8 : (w7.setCell ⟨w5.heap.size, 0, none⟩ (.slice A2 l2.length c2)).cell? ⟨w.heap.size, 3, none⟩ = some (.int .i64 u) := by
            rw [World.cell?_setCell_far _ _ _ _ (by show w5.heap.size ≠ w.heap.size; omega)]; exact hpx7
          refine hK.out _ _ (hpx7) (fun hHeld => ?_)
          clear hK K
          (try simp only [Act.put, List.getElem_toArray, List.getElem_cons_succ, List.getElem_cons_zero, List.setIfInBounds_toArray, List.set_cons_zero, List.set_cons_succ])
          refine wpAnyH_ready (rs := [12]) (by kernel_rfl) (by simp) (AllReadyH.cons rfl (fun K hK => ?_) AllReadyH.nil)
          go_simp
          refine hK.out _ _ (hpx8) (fun hHeld => ?_)
          clear hK K
          (try simp only [Act.put, List.getElem_toArray, List.getElem_cons_succ, List.getElem_cons_zero, List.setIfInBounds_toArray, List.set_cons_zero, List.set_cons_succ])
          refine wpAnyH_done (by kernel_rfl) ?_ _
          gi_wp2
          obtain ⟨q1, q2, q3, q4⟩ := HPU.out
          have e : l2 = (pre ++ [x]).map fun v => (shlV u v, shlV u v) := by rw [HL2.out, HOE.out, List.map_append, ← hy]; rfl
          refine ⟨q1, q2, ?_, by simp; omega, HBW.out.trans q4⟩
          show BoxRow _ _ ((pre ++ [x]).map fun v => (shlV u v, shlV u v)) _
          rw [← e]; exact q3
      case done =>
        rintro D' xs W hD' rfl ⟨hbr, hlen1, hbW⟩ hKD
        obtain ⟨Ab, cb, hv, hf, hrow⟩ := hbr
        have hnr : ∀ y ∈ nums ro, 0 ≤ y ∧ y ≤ 63 := by
          intro y hy
          have h1 := (nums_mem ro y).1 hy
          have h2 := (Ro.out.2 y).1 h1
          obtain ⟨p, hp, g1, g2⟩ := (InS_iff _ _).1 h2.2.2
          have h3 := HI.out.2 p hp
          have ht6 : t ≤ 6 := by have := (bitsB_iff _ _ _).1 HBB.out; omega
          have h4 := pw_le6 (n := t) (by omega) ht6
          rw [HT.out] at h4
          omega
        have e : ((nums ro).map fun v => (shlV u v, shlV u v)) = (nums ro).map fun v => (v * pw u, v * pw u) := by
          refine List.map_congr_left fun y hy => ?_
          have h1 := hnr y hy
          have h2 := pw_le21 (n := u) (by omega) (by omega)
          have h3 := pw_pos u
          have h4 : y * pw u ≤ 63 * 2097152 := Int.mul_le_mul h1.2 h2 (by omega) (by omega)
          have h5 : 0 ≤ y * pw u := Int.mul_nonneg h1.1 (by omega)
          have : shlV u y = y * pw u := IntWalk.i64_in _ (by show _ ∧ _; unfold pw at h4 h5; omega)
          rw [this]
        rw [e] at hv hrow
        obtain ⟨lu, hlu⟩ : ∃ l, ((nums ro).map fun v => (v * pw u, v * pw u)) = l := ⟨_, rfl⟩
        rw [hlu] at hv hrow
        have hwu : SpW lu := by
          intro p hp
          rw [← hlu] at hp
          obtain ⟨y, hy, rfl⟩ := List.mem_map.1 hp
          have h1 := hnr y hy
          have h2 := pw_le21 (n := u) (by omega) (by omega)
          have h3 := pw_pos u
          have h4 : y * pw u ≤ 63 * 2097152 := Int.mul_le_mul h1.2 h2 (by omega) (by omega)
          have h5 : 0 ≤ y * pw u := Int.mul_nonneg h1.1 (by omega)
          simp only
          omega
        have hll : lu.length < 137438953472 := by rw [← hlu, List.length_map]; omega
        have hDW : D' < W.heap.size := (Array.getElem?_eq_some_iff.1 hKD).1
        obtain ⟨s, Rs⟩ := rep_norm lu
        have HK7 := Lib.hid ((HK.out.step hbW).add (Below.refl _ _) (G := fun W' => Lst Ab lu W' ∧ Below w5.heap.size w5 W' ∧ W'.heap[D']? = some (.deferred (some []))) (fun W' hW' => ⟨⟨hrow.spans.below hW', hwu, hll⟩, hbW.trans (hW'.mono hbW.size), (hW'.block D' hDW).trans hKD⟩))
        have HS := Lib.hid hlu
        have hlt := lt_of_cell hv
        clear e hlu hKD hbW hrow hDW
        go_wp2_with fail
        refine (Norm_st HK7 (fun _ h => h.1.1) _ Rs).mono ?_
        rintro e w8 ⟨A8, c8, rfl, HK8⟩
        go_wp2_with fail
        have hn8 := HK8.out.now
        refine leaveM_mark (.slice A8 s.length c8) hn8.2.1.2.2 (fun w' => by simp [results, Try.f72, go_sem]) ?_
        have HIp : Hid (ImInv (pw d) (pw t) m o) := by unfold Hid; rw [HD.out, HT.out]; exact HI.out
        obtain rfl := Rep.unique (HIp.out.repU HBB.out RM.out Ro.out (by rw [HS.out]; exact Rs.out)) hr.out (fun _ => Iff.rfl)
        exact ⟨_, _, rfl, Lib.hid ((HK.out.mark hn8.2.1.2.1 hn8.1 (by omega) hn8.2.1.2.2).weaken fun W h => ⟨h.1, h.2.2.2.2.2.2.2⟩)⟩
      case stop =>
        rintro D cd pre W hD hpre hF
        exact hF.elim
end
end Go.Proofs.Ytlmkokeapbleoaa
end
section
namespace Go.Proofs.Ytlmkokeapbleoaa
open Go.RowKit Go.Shelf
attribute [local go_sem] Oper.semAt_some
section
variable {w0 w : World} {F : World → Prop} {G : Option Addr} {g0 r : List Sp}
end
end Go.Proofs.Ytlmkokeapbleoaa
end
section
namespace Go.Proofs.Ytlmkokeapbleoaa
open Go.RowKit Go.Shelf
def pushR (o : List Sp) (n : Int) : List Sp := match o.getLast? with
  | some q => if q.2 = n - 1 then o.dropLast ++ [(q.1, n)] else o ++ [(n, n)]
  | none => o ++ [(n, n)]
theorem pushR_nil (n : Int) : pushR [] n = [(n, n)] := rfl
theorem pushR_join (m : List Sp) (q1 q2 n : Int) (h : q2 = n - 1) : pushR (m ++ [(q1, q2)]) n = m ++ [(q1, n)] := by simp [pushR, h]
theorem pushR_new (m : List Sp) (q1 q2 n : Int) (h : ¬ q2 = n - 1) : pushR (m ++ [(q1, q2)]) n = m ++ [(q1, q2)] ++ [(n, n)] := by simp [pushR, h]
def rowSp (ns : List Int) : List Sp := ns.foldl pushR []
theorem rowSp_snoc (ns : List Int) (n : Int) : rowSp (ns ++ [n]) = pushR (rowSp ns) n := by simp [rowSp, List.foldl_append]
theorem rowSp_ok (ns : List Int) (M : Int) (h : ∀ n ∈ ns, 0 ≤ n ∧ n ≤ M) : (rowSp ns).length ≤ ns.length ∧ (∀ p ∈ rowSp ns, 0 ≤ p.1 ∧ p.1 ≤ p.2 ∧ p.2 ≤ M) ∧ ∀ v, InS (rowSp ns) v ↔ v ∈ ns := by
  induction ns using snoc_ind with
  | h0 => exact ⟨Nat.le_refl _, fun p hp => (by cases hp), fun v => by simp [rowSp, InS]⟩
  | h1 ns n ih =>
    obtain ⟨i1, i2, i3⟩ := ih fun x hx => h x (List.mem_append_left _ hx)
    have hn := h n (by simp)
    rw [rowSp_snoc]
    rcases last_cases (rowSp ns) with e | ⟨m, ⟨q1, q2⟩, e⟩
    · rw [e, pushR_nil]
      refine ⟨by simp, fun p hp => by simp at hp; subst hp; simp only; omega, fun v => ?_⟩
      have h3 := i3 v
      rw [e] at h3
      simp only [InS, false_iff] at h3
      simp only [InS, or_false, List.mem_append, List.mem_singleton, h3, false_or]
      omega
    · rw [e] at i1 i2 i3
      have hq := i2 (q1, q2) (by simp)
      simp only at hq
      by_cases hj : q2 = n - 1
      · rw [e, pushR_join _ _ _ _ hj]
        refine ⟨by simp at i1 ⊢; omega, fun p hp => ?_, fun v => ?_⟩
        · rcases List.mem_append.1 hp with hp | hp
          · exact i2 p (List.mem_append_left _ hp)
          · simp at hp; subst hp; simp only; omega
        · have h3 := i3 v
          rw [InS_append] at h3 ⊢
          simp only [InS, or_false] at h3 ⊢
          rw [List.mem_append, ← h3, List.mem_singleton]
          constructor
          · rintro (g | g)
            · exact .inl (.inl g)
            · by_cases e2 : v = n
              · exact .inr e2
              · exact .inl (.inr (by omega))
          · rintro ((g | g) | g)
            · exact .inl g
            · exact .inr (by omega)
            · exact .inr (by omega)
      · rw [e, pushR_new _ _ _ _ hj]
        refine ⟨by simp at i1 ⊢; omega, fun p hp => ?_, fun v => ?_⟩
        · rcases List.mem_append.1 hp with hp | hp
          · exact i2 p hp
          · simp at hp; subst hp; simp only; omega
        · rw [InS_append (m ++ [(q1, q2)]), i3 v, List.mem_append, List.mem_singleton]
          simp only [InS, or_false]
          constructor
          · rintro (g | g)
            · exact .inl g
            · exact .inr (by omega)
          · rintro (g | g)
            · exact .inl g
            · exact .inr (by omega)
theorem BoxRow.store {lo hi Bu base : Nat} {W : World} {A : Option Addr} {c g : Nat} {m : List Sp} {q1 q2 n : Int} (h1 : lo ≤ Bu) (h2 : Bu < hi) (h3 : hi ≤ base) (hv : W.cell? ⟨Bu, 0, none⟩ = some (.slice A (m ++ [(q1, q2)]).length c)) (hf : W.frozen? ⟨Bu, 0, none⟩ = false)
    (ho : SRow W base A c (m ++ [(q1, q2)])) (hA : A = some ⟨g, 0, none⟩) :
    KeepsOthers W (W.setCell ⟨g, m.length * 2 + 1, none⟩ (.int .i64 n)) ∧ KpB lo hi Bu W (W.setCell ⟨g, m.length * 2 + 1, none⟩ (.int .i64 n)) ∧ BoxRow Bu base (m ++ [(q1, n)]) (W.setCell ⟨g, m.length * 2 + 1, none⟩ (.int .i64 n)) ∧
      Below lo W (W.setCell ⟨g, m.length * 2 + 1, none⟩ (.int .i64 n)) := by
  subst hA
  have hlt := ho.lt g rfl
  have hne : Bu ≠ g := by omega
  have hcB : (W.setCell ⟨g, m.length * 2 + 1, none⟩ (.int .i64 n)).cell? ⟨Bu, 0, none⟩ = W.cell? ⟨Bu, 0, none⟩ := World.cell?_setCell_far _ _ _ _ (fun e => hne e.symm)
  refine ⟨KeepsOthers.setCell _ _ _, KpB.same (by simp) (fun p u hu hno => ?_) hcB, ⟨some ⟨g, 0, none⟩, c, ?_, ?_, ?_⟩, ?_⟩
  · rw [World.cell?_setCell_far _ _ _ _ (fun e => hno (.inr ⟨0, _, c, by rw [← e]; exact hv⟩))]; exact hu
  · rw [hcB, hv]; simp
  · rw [World.frozen?_setCell]; exact hf
  · have h := (World.ownsRow.stored ho (m.length * 2 + 1) (.int .i64 n)).1
    have e : (spanCells (m ++ [(q1, q2)])).set (m.length * 2 + 1) (.int .i64 n) = spanCells (m ++ [(q1, n)]) := by
      rw [spanCells_append, spanCells_append, List.set_append_right _ _ (by rw [spanCells_length]; omega), spanCells_length, show m.length * 2 + 1 - m.length * 2 = 1 by omega]
      rfl
    rw [e] at h
    unfold SRow
    have hl : (m ++ [(q1, n)]).length = (m ++ [(q1, q2)]).length := by simp
    rw [hl]
    exact h
  · exact (Below.refl _ _).setCell (p := ⟨g, m.length * 2 + 1, none⟩) (by show lo ≤ g; omega) _
end Go.Proofs.Ytlmkokeapbleoaa
end
section
namespace Go.Proofs.Ytlmkokeapbleoaa
open Go.RowKit Go.Shelf
attribute [local go_sem] Oper.semAt_some
theorem addP_next {l : List PartL} {j : Nat} {p : PartL} (h : l[j]? = some p) (x : Int) : addP (l.take (j + 1)) x = addP (l.take j) x + vP p x := by
  unfold addP
  rw [take_snoc? h, List.map_append, List.sum_append]
  simp
theorem SRow.addr {W : World} {base : Nat} {A : Option Addr} {c : Nat} {m : List Sp} {q : Sp} (h : SRow W base A c (m ++ [q])) : ∃ g, A = some ⟨g, 0, none⟩ ∧ base ≤ g ∧ g < W.heap.size := by
  rcases h.2 with ⟨e, h0⟩ | ⟨g, cap, cur, e, h1, h2, _⟩
  · simp at h0
  · injection e with e1
    exact ⟨g, e1, h1, (Array.getElem?_eq_some_iff.1 h2).1⟩
section
variable {w0 w : World} {F : World → Prop} {A B : Option Addr} {l : List PartL} {s r : List Sp}
theorem together_st (hK : Hid (St w0 w F)) (hp : ∀ W, F W → PartsAt A l W) (hs : ∀ W, F W → Lst B s W) (c cs : Nat) (hb : Hid (∀ p ∈ l, bitsB p.2.1 p.2.2.1 p.2.2.2 = true)) (hl0 : l ≠ []) (hl4 : l.length ≤ 4) (hps : Hid (Plain s)) (hsr : Hid (∀ x, Mem s x → 0 ≤ x ∧ x ≤ 1114111)) (hr : Hid (Rep r (TogS l s))) :
    Calls Try.prog 89 #[.slice A l.length c, .slice B s.length cs] w (RetL w0 r F) := by
  have HP := Lib.hid hp
  have HS := Lib.hid hs
  have HK := St.box hK [.slice A l.length c] 98
  clear hp hs
  refine (callsIn_wide (n := 8)).1 ?_
  refine callsIn_of_wp_marks Try.func89 rfl trivial ?_ rfl
  refine wpIn_wide.2 ?_
  simp only [Try.ntmps89, List.size_toArray, List.length_cons, List.length_nil, Nat.reduceAdd, Nat.reduceSub, Array.replicate_succ, Array.replicate_zero, List.push_toArray, List.append_toArray, List.nil_append, List.cons_append]
  obtain ⟨w5, hw5⟩ : ∃ w5, w.alloc (.cells [.slice A l.length c].toArray 98) = w5 := ⟨_, rfl⟩
  have hs5 : w5.heap.size = w.heap.size + 1 := by rw [← hw5]; simp
  rw [hw5] at HK
  have HW := Lib.hid hw5
  clear hw5
  go_upto_region 1 with fail
  rw [HW.out]
  have hc0 := HK.out.now.1 0 _ rfl
  by_cases h1 : l.length = 1
  · obtain ⟨p, rfl⟩ := List.length_eq_one_iff.1 h1
    obtain ⟨pb, off, q, hA, hq, hw, hd0, hd1, hd2, hd3⟩ := (HP.out _ HK.out.now.2).at_ (j := 0) (by simp)
    simp only [List.getElem?_cons_zero, Option.some.injEq] at hq
    subst hq
    subst hA
    obtain ⟨x1, x2, x3, x4⟩ := p
    simp only [Nat.zero_mul, Nat.add_zero] at hd0 hd1 hd2 hd3
    have HI : Hid (Rep r (ImgS x2 x3 x4 s)) := Lib.hid (hr.out.congr fun v => togS_one (hb.out _ (List.mem_singleton.2 rfl)) hsr.out v)
    clear hw
    simp only [List.length_cons, List.length_nil, Nat.zero_add] at hc0 ⊢
    go_wp2_with fail
    refine (Image_st HK (fun _ h => HS.out _ h.2) cs x1 x2 x3 x4 HI).mono ?_
    rintro e w3 ⟨A3, c3, rfl, HK3⟩
    go_wp2_with fail
    refine leaveM_nil (.slice A3 r.length c3) (by simp [results, Try.f89, go_sem]) ?_
    exact ⟨_, _, rfl, Lib.hid (HK3.out.weaken fun W h => ⟨h.1, h.2.2⟩)⟩
  · have hne : ((l.length : Int) == 1) = false := by
      rw [beq_eq_false_iff_ne]; omega
    have HSF : Hid (Rep s (Mem s)) := Lib.hid (Rep.self hps.out)
    have HW5 := Lib.hid ((Below.refl w5.heap.size w5).alloc (Nat.le_refl _) (.cells #[.slice none 0 0] 36))
    have HKA := Lib.hid (HK.out.add HW5.out (G := fun W => True) (fun _ _ => trivial))
    have HSA := Lib.hid (HS.out _ HKA.out.now.2.2)
    have HE := Lib.hid (Each_any B s.length cs s s (w5.alloc (.cells #[.slice none 0 0] 36)) HSA.out.sp HSA.out.wd (by have := HSA.out.len; omega) HSF.out)
    have hnl : (nums s).length ≤ 2147483650 := by have h1 := nums_length hps.out; have h2 := hps.out.cnt_bd; omega
    have HS5 := Lib.hid hs5
    clear h1
    go_wp2_with fail
    refine HE.out.mono ?_
    rintro e w6 ⟨B6, g, c6, rfl, hbd, hcB, hsp, hb6⟩
    obtain ⟨hb56, hbr0, hsz6, hsq⟩ := each_box hps.out hbd hcB hsp hb6
    have HB6 := Lib.hid hb56
    have HB0 := Lib.hid hbr0
    have HSQ := Lib.hid hsq
    rw [hs5] at HB0 HSQ
    clear hbd hcB hsp hb6 HE hb56 hbr0 hsq hc0
    go_wp2_with fail
    refine wp_rangeFunc (gf := 91) (lb := #[.pointer (some ⟨B6, 0, none⟩)]) rfl (enters_of Try.func91 (by kernel_rfl) rfl) HSQ.out kpB_t (kpB_b (by omega)) (fun _ => rfl)
      (fun pre W => BoxRow (w.heap.size + 1) (w.heap.size + 1 + 1) (rowSp (pre.map (addP l))) W ∧ (pre.length ≤ (nums s).length ∧ Below w5.heap.size w5 W))
      (fun _ _ _ => False)
      (OwnFrom.and (BoxRow.own _ _ _ _) (OwnFrom.and (ownFrom_pure _ _) (ownFrom_below (Nat.le_refl _) (by omega))))
      (fun _ _ _ _ _ h _ _ => h)
      ⟨HB0.out, Nat.zero_le _, HB6.out⟩
      ?act ?assign ?body ?done ?stop
    case assign =>
      intro l x W K hK
      gi_wp2
      exact hK
    case body =>
      rintro l1 pre x W ⟨hbr, hlen1, hbW⟩ hlen
      obtain ⟨Ab, cb, hv, hf, hrow⟩ := hbr
      have HKW := Lib.hid (HK.out.step hbW)
      have hc0 := HKW.out.now.1 0 _ rfl
      have HBW := Lib.hid hbW
      obtain ⟨o, ho⟩ : ∃ o, rowSp (pre.map (addP l)) = o := ⟨_, rfl⟩
      have hok := rowSp_ok (pre.map (addP l)) 268435456 (fun n hn => by
        obtain ⟨y, _, rfl⟩ := List.mem_map.1 hn
        have := addP_bd l y
        omega)
      rw [ho] at hv hrow hok
      have hol : o.length < 1099511627776 := by have := hok.1; rw [List.length_map] at this; omega
      have HOE := Lib.hid ho
      have HOK := Lib.hid hok.2.1
      have HROW := Lib.hid hrow
      have HV := Lib.hid (And.intro hv hf)
      have HLN := Lib.hid hlen
      clear ho hrow hbW hok hf hv hlen1 hlen
      gi_wp2
      gi_loopw [7, 26] (fun n i wr => ∃ j : Nat, j ≤ l.length ∧ i = .int .i64 j ∧ n = .int .i64 (addP (l.take j) x) ∧ Hid (Below W.heap.size W wr)) (fun _ i _ => l.length - (intOf i).toNat)
      case atStart => exact ⟨0, Nat.zero_le _, rfl, by simp [addP], Lib.hid (Below.refl _ W)⟩
      case round =>
      obtain ⟨j, hj, rfl, rfl, HBR⟩ := hrel
      by_cases hjl : j < l.length
      · obtain ⟨xb, xo, p, hqa, hpx, _, hp1, hp2, hp3, hp4⟩ := (HP.out _ (HKW.out.step HBR.out).now.2).at_ hjl
        obtain ⟨pa, pd, pt, pu⟩ := p
        simp only at hp1 hp2 hp3 hp4
        obtain ⟨v, hv⟩ : ∃ v, vNum pd pt pu x = v := ⟨_, rfl⟩
        obtain ⟨ok, hok⟩ : ∃ v, vOk pd pt pu x = v := ⟨_, rfl⟩
        have hv26 := vNum_bd pd pt pu x
        rw [hv] at hv26
        have hSN : addP (l.take (j + 1)) x = addP (l.take j) x + v := by rw [addP_next hpx, ← hv]; rfl
        have hs0 := addP_bd (l.take j) x
        have hlt : ((l.take j).length : Int) ≤ 4 := by rw [List.length_take]; omega
        obtain ⟨z, hz⟩ : ∃ z, addP (l.take j) x = z := ⟨_, rfl⟩
        rw [hz] at hs0 hSN ⊢
        have hji : (j : Int) < (l.length : Int) := by omega
        have HVN := Lib.hid hv
        have HVO := Lib.hid hok
        have HSN := Lib.hid hSN
        have hsb : 0 ≤ z ∧ z ≤ 536870912 := by omega
        subst hqa
        clear hpx hv hok hSN hz hs0 hlt
        gi_wp2_with (refine ⟨trivial, ?_⟩; gi_at_call 92; refine (CallsIn.inRound l1 (callsIn_wide.2 (Value_st (F := fun _ => True) (Lib.hid (St.start fun _ _ => trivial)) pa pd pt pu x HVN.out HVO.out))).mono ?_; rintro e w7 ⟨rfl, HK7⟩)
        exact ⟨⟨j + 1, by omega, by go_num, by rw [HSN.out], Lib.hid (below_to HBR.out (below_to ((Below.refl _ wr).alloc (Nat.le_refl _) _) HK7.out.2))⟩, by simp [intOf]; omega⟩
      · obtain rfl : j = l.length := by omega
        rw [List.take_length]
        have hd : decide ((l.length : Int) < (l.length : Int)) = false := by simp
        obtain ⟨z, hz⟩ : ∃ z, addP l x = z := ⟨_, rfl⟩
        have hs0 := addP_bd l x
        rw [hz] at hs0 ⊢
        have hzb : 0 ≤ z ∧ z ≤ 536870912 := by omega
        have HZ := Lib.hid hz
        have hbW := lt_of_cell HV.out.1
        have hv := (HBR.out.cell hbW).trans HV.out.1
        have hf := (HBR.out.frozen hbW).trans HV.out.2
        have hbr := lt_of_cell hv
        have HVR := Lib.hid (And.intro hv hf)
        have HR2 := Lib.hid (HROW.out.below HBR.out)
        have HNX : Hid (rowSp ((pre ++ [x]).map (addP l)) = pushR o z) := Lib.hid (by rw [List.map_append, List.map_cons, List.map_nil, rowSp_snoc, HOE.out, HZ.out])
        have hsz : w5.heap.size ≤ wr.heap.size := by have h1 := HBW.out.size; have h2 := HBR.out.size; omega
        have hlen1 : (pre ++ [x]).length ≤ (nums s).length := by have := HLN.out; simp; omega
        have HLEN := Lib.hid hlen1
        clear hz hs0 hjl hlen1
        rcases snoc_cases o with rfl | ⟨m, q, rfl⟩
        · have HPN : Hid (pushR [] z = [(z, z)]) := Lib.hid (pushR_nil z)
          have HLEN1 : Hid (([] : List Sp).length = 0) := Lib.hid rfl
          gi_wp2_with (
            gi_at_builtin
            refine wpListIn_pushS rfl _ _ rfl HR2.out (by first | rfl | (rw [HLEN1.out]; rfl)) (by first | rfl | (simp; rfl) | simp) (by first | (rw [HLEN1.out]; omega) | simp) (by omega) ?_
            intro l2 A2 c2 w8 HL2 HO2 HG2 HAT2
            have HPU := Lib.hid (BoxRow.push (lo := w.heap.size + 1) (hi := w.heap.size + 1 + 1) (Nat.le_refl _) (by omega) (Nat.le_refl _) HV.out.1 HV.out.2 HROW.out (w0 := wr) (ob := .cells #[.int .i64 z, .int .i64 z] 35) HBR.out rfl HO2.out HG2.out HAT2.out)
            have hbx8 := HG2.out.cell (cellAlloc _ hv) (fun e => by
              have h2 : w.heap.size + 1 + 1 ≤ w.heap.size + 1 := (HR2.out.lt _ e.symm).1
              omega)
            have hbf8 : w8.frozen? ⟨w.heap.size + 1, 0, none⟩ = false := by
              have := HPU.out.2.2.1
              obtain ⟨A8, c8, q1, q2, q3⟩ := this
              rwa [World.frozen?_setCell] at q2)
          obtain ⟨q1, q2, q3, q4⟩ := HPU.out
          have e : l2 = rowSp ((pre ++ [x]).map (addP l)) := by rw [HL2.out, HNX.out, HPN.out]; try rfl
          refine ⟨q1, q2, ?_, HLEN.out, HBW.out.trans (q4.mono (by have := HS5.out; omega))⟩
          show BoxRow _ _ (rowSp ((pre ++ [x]).map (addP l))) _
          rw [← e]; exact q3
        · obtain ⟨q1, q2⟩ := q
          have hqb := HOK.out (q1, q2) (by simp)
          simp only at hqb
          obtain ⟨g2, rfl, hg2b, hg2⟩ := HR2.out.addr
          have hq := (spanCells_at (m ++ [(q1, q2)]) m.length (q1, q2) (by simp)).2
          have hd3 : wr.cell? ⟨g2, m.length * 2 + 1, none⟩ = some (.int .i64 q2) := by rw [HR2.out.cellAt _ (by simp; omega)]; exact hq
          have HLEN1 : Hid ((m ++ [(q1, q2)]).length = m.length + 1) := by unfold Hid; simp
          rw [HLEN1.out] at hv
          have hol2 : m.length + 1 < 1099511627776 := by rw [← HLEN1.out]; exact hol
          clear hq hol
          by_cases hjn : q2 = z - 1
          · have HPN : Hid (pushR (m ++ [(q1, q2)]) z = m ++ [(q1, z)]) := Lib.hid (pushR_join m q1 q2 z hjn)
            have hqe : (q2 == z - 1) = true := by simpa using hjn
            have hqf := HR2.out.frozenAt (m.length * 2 + 1)
            obtain ⟨k1, k2, k3, k4⟩ := BoxRow.store (lo := w.heap.size + 1) (hi := w.heap.size + 1 + 1) (n := z) (Nat.le_refl _) (by omega) (Nat.le_refl _) HVR.out.1 HVR.out.2 HR2.out rfl
            have HK1 := Lib.hid k1
            have HK2 := Lib.hid k2
            have HK3 := Lib.hid k3
            have HK4 := Lib.hid k4
            clear k1 k2 k3 k4
            gi_wp2
            refine ⟨(keeps_below HBR.out).trans HK1.out, (KpB.below HBR.out (Nat.le_refl _) hbW).trans HK2.out, ?_, HLEN.out, (HBW.out.trans (HBR.out.mono HBW.out.size)).trans (HK4.out.mono (by have := HS5.out; omega))⟩
            show BoxRow _ _ (rowSp ((pre ++ [x]).map (addP l))) _
            rw [HNX.out, HPN.out]; exact HK3.out
          · have HPN : Hid (pushR (m ++ [(q1, q2)]) z = m ++ [(q1, q2)] ++ [(z, z)]) := Lib.hid (pushR_new m q1 q2 z hjn)
            have hqe : (q2 == z - 1) = false := by simpa using hjn
            gi_wp2_with (
              gi_at_builtin
              refine wpListIn_pushS rfl _ _ rfl HR2.out (by first | rfl | (rw [HLEN1.out]; rfl)) (by first | rfl | (simp; rfl) | simp) (by first | (rw [HLEN1.out]; omega) | simp) (by omega) ?_
              intro l2 A2 c2 w8 HL2 HO2 HG2 HAT2
              have HPU := Lib.hid (BoxRow.push (lo := w.heap.size + 1) (hi := w.heap.size + 1 + 1) (Nat.le_refl _) (by omega) (Nat.le_refl _) HV.out.1 HV.out.2 HROW.out (w0 := wr) (ob := .cells #[.int .i64 z, .int .i64 z] 35) HBR.out rfl HO2.out HG2.out HAT2.out)
              have hbx8 := HG2.out.cell (cellAlloc _ hv) (fun e => by
                have h2 : w.heap.size + 1 + 1 ≤ w.heap.size + 1 := (HR2.out.lt _ e.symm).1
                omega)
              have hbf8 : w8.frozen? ⟨w.heap.size + 1, 0, none⟩ = false := by
                have := HPU.out.2.2.1
                obtain ⟨A8, c8, q1, q2, q3⟩ := this
                rwa [World.frozen?_setCell] at q2)
            obtain ⟨q1, q2, q3, q4⟩ := HPU.out
            have e : l2 = rowSp ((pre ++ [x]).map (addP l)) := by rw [HL2.out, HNX.out, HPN.out]; try rfl
            refine ⟨q1, q2, ?_, HLEN.out, HBW.out.trans (q4.mono (by have := HS5.out; omega))⟩
            show BoxRow _ _ (rowSp ((pre ++ [x]).map (addP l))) _
            rw [← e]; exact q3
    case done =>
      rintro D' xs W hD' rfl ⟨hbr, hlen1, hbW⟩ hKD
      obtain ⟨Ab, cb, hv, hf, hrow⟩ := hbr
      have hok := rowSp_ok ((nums s).map (addP l)) 268435456 (fun n hn => by
        obtain ⟨y, _, rfl⟩ := List.mem_map.1 hn
        have := addP_bd l y
        omega)
      obtain ⟨lu, hlu⟩ : ∃ o, rowSp ((nums s).map (addP l)) = o := ⟨_, rfl⟩
      rw [hlu] at hv hrow hok
      have HIN : Hid (∀ y, Mem lu y ↔ TogS l s y) := by
        intro y
        have h1 : InS lu y ↔ TogS l s y := by
          rw [hok.2.2 y, List.mem_map]
          unfold TogS
          constructor
          · rintro ⟨x, hx, e⟩; exact ⟨x, (hps.out.mem x).2 ((nums_mem s x).1 hx), e⟩
          · rintro ⟨x, hx, e⟩; exact ⟨x, (nums_mem s x).2 ((hps.out.mem x).1 hx), e⟩
        unfold Mem
        rw [h1]
        refine ⟨fun h => h.2.2, fun h => ?_⟩
        have := togS_bd hl4 h
        exact ⟨by omega, by omega, h⟩
      have hll : lu.length < 137438953472 := by have := hok.1; rw [List.length_map] at this; omega
      have hwu : SpW lu := fun p hp => by have := hok.2.1 p hp; omega
      have hDW : D' < W.heap.size := (Array.getElem?_eq_some_iff.1 hKD).1
      obtain ⟨t, Rs⟩ := rep_norm lu
      have HK7 := Lib.hid ((HK.out.step hbW).add (Below.refl _ _) (G := fun W' => Lst Ab lu W' ∧ Below w5.heap.size w5 W' ∧ W'.heap[D']? = some (.deferred (some []))) (fun W' hW' => ⟨⟨hrow.spans.below hW', hwu, hll⟩, hbW.trans (hW'.mono hbW.size), (hW'.block D' hDW).trans hKD⟩))
      have hlt := lt_of_cell hv
      clear hlu hKD hbW hrow hDW hok
      go_wp2_with fail
      refine (Norm_st HK7 (fun _ h => h.1.1) _ Rs).mono ?_
      rintro e w8 ⟨A8, c8, rfl, HK8⟩
      go_wp2_with fail
      have hn8 := HK8.out.now
      refine leaveM_mark (.slice A8 t.length c8) hn8.2.1.2.2 (fun w' => by simp [results, Try.f89, go_sem]) ?_
      obtain rfl := Rep.unique (Rs.out.congr fun y => HIN.out y) hr.out (fun _ => Iff.rfl)
      exact ⟨_, _, rfl, Lib.hid ((HK.out.mark hn8.2.1.2.1 hn8.1 (by omega) hn8.2.1.2.2).weaken fun W h => ⟨h.1, h.2.2⟩)⟩
    case stop =>
      rintro D cd pre W hD hpre hF
      exact hF.elim
end
end Go.Proofs.Ytlmkokeapbleoaa
end
