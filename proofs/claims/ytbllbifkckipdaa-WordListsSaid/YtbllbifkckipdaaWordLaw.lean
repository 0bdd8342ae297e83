/- The plain law of sorted words: the order of words, lists of words that rise, a word more in its place, runs of equal words made one. No function of the program in sight. Condition: none. -/
import Derived.Test.YtbllbifkckipdaaItems
import Derived.Test.YtbllbifkckipdaaSort
namespace Go.Proofs.Ytbllbifkckipdaa
open Go.RowKit Go.Sort Go.Lib
set_option linter.unusedVariables false

def ltW (a b : List Int) : Prop := cmpW a b = -1
theorem cmpW_range (a b : List Int) : cmpW a b = -1 ∨ cmpW a b = 0 ∨ cmpW a b = 1 := by
  induction a generalizing b with
  | nil => cases b <;> simp [cmpW]
  | cons x a ih =>
    cases b with
    | nil => simp [cmpW]
    | cons y b => simp only [cmpW]; split; exact ih b; split <;> simp
theorem cmpW_eq (a b : List Int) : cmpW a b = 0 ↔ a = b := by
  induction a generalizing b with
  | nil => cases b <;> simp [cmpW]
  | cons x a ih =>
    cases b with
    | nil => simp [cmpW]
    | cons y b =>
      simp only [cmpW]
      split
      · rename_i h; subst h; rw [ih]; simp
      · rename_i h; split <;> simp [h]
theorem cmpW_anti (a b : List Int) : cmpW b a = - cmpW a b := by
  induction a generalizing b with
  | nil => cases b <;> simp [cmpW]
  | cons x a ih =>
    cases b with
    | nil => simp [cmpW]
    | cons y b =>
      simp only [cmpW]
      by_cases h : x = y
      · subst h; simp [ih b]
      · have h2 : ¬ y = x := fun e => h e.symm
        simp only [if_neg h, if_neg h2]
        by_cases h3 : x < y
        · rw [if_pos h3, if_neg (by omega)]; rfl
        · rw [if_neg h3, if_pos (by omega)]
theorem ltW_trans {a b c : List Int} (h : ltW a b) (k : ltW b c) : ltW a c := by
  unfold ltW at *
  induction a generalizing b c with
  | nil =>
    cases b with
    | nil => simp [cmpW] at h
    | cons y b => cases c with
      | nil => simp [cmpW] at k
      | cons z c => simp [cmpW]
  | cons x a ih =>
    cases b with
    | nil => simp [cmpW] at h
    | cons y b => cases c with
      | nil => simp [cmpW] at k
      | cons z c =>
        simp only [cmpW] at h k ⊢
        by_cases h1 : x = y
        · subst h1
          rw [if_pos rfl] at h
          by_cases h2 : x = z
          · subst h2; rw [if_pos rfl] at k ⊢; exact ih h k
          · rw [if_neg h2] at k ⊢; exact k
        · rw [if_neg h1] at h
          have hxy : x < y := by
            by_cases g : x < y
            · exact g
            · rw [if_neg g] at h; simp at h
          by_cases h2 : y = z
          · subst h2; rw [if_neg h1, if_pos hxy]
          · rw [if_neg h2] at k
            have hyz : y < z := by
              by_cases g : y < z
              · exact g
              · rw [if_neg g] at k; simp at k
            rw [if_neg (by omega), if_pos (by omega)]
theorem ltW_irrefl (a : List Int) : ¬ ltW a a := fun h => by have := (cmpW_eq a a).2 rfl; unfold ltW at h; omega
theorem not_ltW {a b : List Int} (h : ¬ ltW a b) : a = b ∨ ltW b a := by
  unfold ltW at *
  rcases cmpW_range a b with g | g | g
  · exact absurd g h
  · exact .inl ((cmpW_eq a b).1 g)
  · right; rw [cmpW_anti a b, g]
theorem swoW : SWO (Proofs.ltOf cmpW) where
  irrefl x := by unfold Proofs.ltOf; rw [(cmpW_eq x x).2 rfl]; simp
  trans x y z h1 h2 := by
    unfold Proofs.ltOf at *
    have e1 : ltW x y := by rcases cmpW_range x y with g | g | g <;> simp [g] at h1; exact g
    have e2 : ltW y z := by rcases cmpW_range y z with g | g | g <;> simp [g] at h2; exact g
    have := ltW_trans e1 e2
    unfold ltW at this
    simp [this]
  ntrans x y z h1 h2 := by
    unfold Proofs.ltOf at *
    have e1 : ¬ ltW x y := fun g => by unfold ltW at g; simp [g] at h1
    have e2 : ¬ ltW y z := fun g => by unfold ltW at g; simp [g] at h2
    have : ¬ ltW x z := by
      intro g
      rcases not_ltW e1 with rfl | g1
      · exact e2 g
      · rcases not_ltW e2 with rfl | g2
        · exact e1 g
        · exact ltW_irrefl _ (ltW_trans (ltW_trans g g2) g1)
    rcases cmpW_range x z with g | g | g
    · exact absurd g this
    · simp [g]
    · simp [g]

/-- words that rise, each once -/
def StW (l : List (List Int)) : Prop := l.Pairwise ltW
theorem StW.unique {l m : List (List Int)} (hl : StW l) (hm : StW m) (h : ∀ x, x ∈ l ↔ x ∈ m) : l = m := by
  induction l generalizing m with
  | nil =>
    cases m with
    | nil => rfl
    | cons b m => exact absurd ((h b).2 (by simp)) (by simp)
  | cons a l ih =>
    cases m with
    | nil => exact absurd ((h a).1 (by simp)) (by simp)
    | cons b m =>
      obtain ⟨h1, h2⟩ := List.pairwise_cons.1 hl
      obtain ⟨k1, k2⟩ := List.pairwise_cons.1 hm
      have e : a = b := by
        rcases List.mem_cons.1 ((h a).1 (by simp)) with e | e
        · exact e
        · rcases List.mem_cons.1 ((h b).2 (by simp)) with e' | e'
          · exact e'.symm
          · exact absurd (ltW_trans (h1 b e') (k1 a e)) (ltW_irrefl a)
      subst e
      rw [ih h2 k2 fun x => ?_]
      constructor
      · intro hx
        rcases List.mem_cons.1 ((h x).1 (List.mem_cons_of_mem _ hx)) with rfl | e
        · exact absurd (h1 x hx) (ltW_irrefl x)
        · exact e
      · intro hx
        rcases List.mem_cons.1 ((h x).2 (List.mem_cons_of_mem _ hx)) with rfl | e
        · exact absurd (k1 x hx) (ltW_irrefl x)
        · exact e
theorem StW.ins {l : List (List Int)} {w : List Int} {lo : Nat} (h : StW l) (h1 : ∀ (j : Nat) x, j < lo → l[j]? = some x → ltW x w) (h2 : ∀ (j : Nat) x, lo ≤ j → l[j]? = some x → ltW w x) : StW (l.take lo ++ w :: l.drop lo) := by
  unfold StW at *
  rw [List.pairwise_append, List.pairwise_cons]
  have ht : ∀ x ∈ l.take lo, ltW x w := fun x hx => by
    obtain ⟨j, hj⟩ := List.mem_iff_getElem?.1 hx
    rw [List.getElem?_take] at hj
    split at hj
    · exact h1 j x (by assumption) hj
    · cases hj
  have hd : ∀ x ∈ l.drop lo, ltW w x := fun x hx => by
    obtain ⟨j, hj⟩ := List.mem_iff_getElem?.1 hx
    rw [List.getElem?_drop] at hj
    exact h2 _ x (by omega) hj
  refine ⟨h.sublist (List.take_sublist _ _), ⟨hd, h.sublist (List.drop_sublist _ _)⟩, ?_⟩
  intro a ha b hb
  rcases List.mem_cons.1 hb with rfl | hb
  · exact ht a ha
  · exact ltW_trans (ht a ha) (hd b hb)
theorem mem_ins {α : Type} (l : List α) (lo : Nat) (w x : α) : x ∈ l.take lo ++ w :: l.drop lo ↔ x ∈ l ∨ x = w := by
  have e : x ∈ l ↔ x ∈ l.take lo ∨ x ∈ l.drop lo := by rw [← List.mem_append, List.take_append_drop]
  rw [e, List.mem_append, List.mem_cons]
  constructor
  · rintro (h | h | h)
    · exact .inl (.inl h)
    · exact .inr h
    · exact .inl (.inr h)
  · rintro ((h | h) | h)
    · exact .inl h
    · exact .inr (.inr h)
    · exact .inr (.inl h)
/-- what the elements ahead of a place, and from it on, are to a word -/
theorem StW.lt_of {l : List (List Int)} (h : StW l) {i j : Nat} {x y : List Int} (hij : i < j) (hi : l[i]? = some x) (hj : l[j]? = some y) : ltW x y := by
  obtain ⟨h1, rfl⟩ := List.getElem?_eq_some_iff.1 hi
  obtain ⟨h2, rfl⟩ := List.getElem?_eq_some_iff.1 hj
  exact (List.pairwise_iff_getElem.1 h) i j h1 h2 hij
/-- sorted, not strictly -/
def SrW (l : List (List Int)) : Prop := l.Pairwise fun a b => ¬ ltW b a
theorem SrW.le_of {l : List (List Int)} (h : SrW l) {i j : Nat} {x y : List Int} (hij : i < j) (hi : l[i]? = some x) (hj : l[j]? = some y) : ¬ ltW y x := by
  obtain ⟨h1, rfl⟩ := List.getElem?_eq_some_iff.1 hi
  obtain ⟨h2, rfl⟩ := List.getElem?_eq_some_iff.1 hj
  exact (List.pairwise_iff_getElem.1 h) i j h1 h2 hij
/-- what has been kept of the first i: rising, the same words, the last one the same as the last one gone by -/
structure CInv (l : List (List Int)) (i : Nat) (o : List (List Int)) : Prop where
  rise : StW o
  same : ∀ x, x ∈ o ↔ x ∈ l.take i
  last : ∃ q m, o = m ++ [q] ∧ l[i - 1]? = some q
  len : o.length ≤ i
theorem CInv.start {l : List (List Int)} {x : List Int} (h : l[0]? = some x) : CInv l 1 [x] := by
  refine ⟨List.pairwise_singleton _ _, fun y => ?_, ⟨x, [], rfl, h⟩, by simp⟩
  have : l.take 1 = [x] := by rw [show (1 : Nat) = 0 + 1 from rfl, take_snoc? h]; simp
  rw [this]
theorem CInv.skip {l o : List (List Int)} {i : Nat} {x : List Int} (h : CInv l i o) (h0 : l[i - 1]? = some x) (hi : l[i]? = some x) : CInv l (i + 1) o := by
  obtain ⟨q, m, e, hq⟩ := h.last
  have hqx : q = x := by rw [h0] at hq; exact (Option.some.inj hq).symm
  refine ⟨h.rise, fun y => ?_, ⟨q, m, e, by rw [Nat.add_sub_cancel, hi, hqx]⟩, by have := h.len; omega⟩
  rw [take_snoc? hi, List.mem_append, h.same]
  constructor
  · exact .inl
  · rintro (g | g)
    · exact g
    · simp at g; subst g; rw [← h.same, e]; simp [hqx]
theorem CInv.push {l o : List (List Int)} {i : Nat} {x y : List Int} (hs : SrW l) (h : CInv l i o) (hpos : 0 < i) (h0 : l[i - 1]? = some y) (hi : l[i]? = some x) (hne : ¬ x = y) : CInv l (i + 1) (o ++ [x]) := by
  obtain ⟨q, m, e, hq⟩ := h.last
  have hqy : q = y := by rw [h0] at hq; exact (Option.some.inj hq).symm
  have hlt : ltW q x := by
    have h1 := hs.le_of (show i - 1 < i by omega) h0 hi
    rcases not_ltW h1 with g | g
    · exact absurd g hne
    · rw [hqy]; exact g
  refine ⟨?_, fun z => ?_, ⟨x, o, rfl, by rw [Nat.add_sub_cancel]; exact hi⟩, by have := h.len; simp; omega⟩
  · have hr := h.rise
    unfold StW at hr ⊢
    rw [List.pairwise_append]
    refine ⟨hr, List.pairwise_singleton _ _, fun a ha b hb => ?_⟩
    simp at hb; subst hb
    rw [e] at ha hr
    rcases List.mem_append.1 ha with ha | ha
    · exact ltW_trans ((List.pairwise_append.1 hr).2.2 a ha q (by simp)) hlt
    · simp at ha; subst ha; exact hlt
  · rw [take_snoc? hi, List.mem_append, List.mem_append, h.same]
end Go.Proofs.Ytbllbifkckipdaa
