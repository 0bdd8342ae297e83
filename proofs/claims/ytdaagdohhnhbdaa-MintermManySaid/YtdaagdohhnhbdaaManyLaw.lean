/- Plain facts on parting a run of numbers by many sets of one number each: so many blocks and one more, up to the limit. No program in sight. Condition: none. -/
import Derived.Test.YtdaagdohhnhbdaaUniLaw
namespace Go.Proofs.Ytdaagdohhnhbdaa
open Go.RowKit
set_option linter.unusedVariables false

/-- single numbers, every second one from lo on, and what is left up to M -/
def tailM : Nat → Int → Int → List Sp
  | 0, lo, M => [(lo, M)]
  | n + 1, lo, M => (lo, lo) :: tailM n (lo + 2) M
theorem tailM_len (n : Nat) (lo M : Int) : (tailM n lo M).length = n + 1 := by
  induction n generalizing lo with
  | zero => rfl
  | succ n ih => simp [tailM, ih]
theorem tailM_in (n : Nat) (lo M : Int) (h : lo + 2 * n ≤ M) (x : Int) : InS (tailM n lo M) x ↔ lo ≤ x ∧ x ≤ M ∧ ∀ j : Nat, j < n → x ≠ lo + 2 * j + 1 := by
  induction n generalizing lo with
  | zero => simp [tailM, InS]
  | succ n ih =>
    simp only [tailM, InS]
    rw [ih (lo + 2) (by omega)]
    constructor
    · rintro (h1 | ⟨h1, h2, h3⟩)
      · exact ⟨by omega, by omega, fun j hj => by omega⟩
      · refine ⟨by omega, h2, fun j hj => ?_⟩
        cases j with
        | zero => omega
        | succ j => have := h3 j (by omega); omega
    · rintro ⟨h1, h2, h3⟩
      by_cases hx : x = lo
      · exact .inl (by omega)
      · have h0 := h3 0 (by omega)
        refine .inr ⟨by omega, h2, fun j hj => ?_⟩
        have := h3 (j + 1) (by omega)
        omega
theorem tailM_plain (n : Nat) (a lo M : Int) (ha : a + 1 < lo) (h : lo + 2 * n ≤ M) (hM : M ≤ 1073741824) : PlainF a (tailM n lo M) := by
  induction n generalizing a lo with
  | zero => exact ⟨ha, by omega, hM, trivial⟩
  | succ n ih => exact ⟨ha, Int.le_refl _, by show lo ≤ _; omega, ih lo (lo + 2) (by omega) (by omega)⟩
/-- what the first block is behind i sets -/
def baseM : Nat → Int → List Sp
  | 0, M => [(-5, M)]
  | n + 1, M => (-5, -1) :: tailM n 1 M
theorem baseM_len (i : Nat) (M : Int) : (baseM i M).length = i + 1 := by
  cases i with
  | zero => rfl
  | succ n => simp [baseM, tailM_len]
theorem baseM_in (i : Nat) (M : Int) (h0 : 0 ≤ M) (h : 2 * (i : Int) - 1 ≤ M) (x : Int) : InS (baseM i M) x ↔ -5 ≤ x ∧ x ≤ M ∧ ∀ j : Nat, j < i → x ≠ 2 * j := by
  cases i with
  | zero => simp [baseM, InS]
  | succ n =>
    simp only [baseM, InS]
    rw [tailM_in n 1 M (by omega)]
    constructor
    · rintro (h1 | ⟨h1, h2, h3⟩)
      · exact ⟨by omega, by omega, fun j hj => by omega⟩
      · refine ⟨by omega, h2, fun j hj => ?_⟩
        cases j with
        | zero => omega
        | succ j => have := h3 j (by omega); omega
    · rintro ⟨h1, h2, h3⟩
      by_cases hx : x ≤ -1
      · exact .inl (by omega)
      · have h0 := h3 0 (by omega)
        refine .inr ⟨by omega, h2, fun j hj => ?_⟩
        have := h3 (j + 1) (by omega)
        omega
theorem baseM_plain (i : Nat) (M : Int) (h0 : 0 ≤ M) (h : 2 * (i : Int) - 1 ≤ M) (hM : M ≤ 1073741824) : Plain (baseM i M) := by
  cases i with
  | zero => exact ⟨by show _ < (-5 : Int); omega, by show (-5 : Int) ≤ M; omega, hM, trivial⟩
  | succ n => exact ⟨by show _ < (-5 : Int); omega, by show (-5 : Int) ≤ -1; omega, by show (-1 : Int) ≤ _; omega, tailM_plain n _ 1 M (by show (-1 : Int) + 1 < 1; omega) (by omega) hM⟩
theorem baseM_key (i : Nat) (M : Int) : keyS (baseM i M) = -5 := by cases i <;> rfl
theorem baseM_ne (i : Nat) (M : Int) : baseM i M ≠ [] := by cases i <;> simp [baseM]
/-- a set of one number -/
def oneM (j : Nat) : List Sp := [(2 * (j : Int), 2 * (j : Int))]
def manyF (k : Nat) : List (List Sp) := (List.range k).map oneM
theorem manyF_succ (k : Nat) : manyF (k + 1) = manyF k ++ [oneM k] := by unfold manyF; rw [List.range_succ, List.map_append]; rfl
theorem manyF_len (k : Nat) : (manyF k).length = k := by simp [manyF]
theorem oneM_in (j : Nat) (x : Int) : InS (oneM j) x ↔ x = 2 * j := by simp only [oneM, InS, or_false]; omega
theorem oneM_plain (j : Nat) (h : 2 * (j : Int) ≤ 1073741824) : Plain (oneM j) := ⟨by show _ < 2 * (j : Int); omega, Int.le_refl _, h, trivial⟩
theorem oneM_ne (j : Nat) : oneM j ≠ [] := by simp [oneM]
theorem parts_apart (s : List Sp) (L P : List (List Sp)) (h : ∀ b ∈ L, b ≠ [] ∧ meetL b s = [] ∧ minusL b s = b) : parts s P L = P ++ L := by
  induction L generalizing P with
  | nil => simp [parts]
  | cons b L ih =>
    obtain ⟨h1, h2, h3⟩ := h b (by simp)
    rw [parts, h2, h3, addL_nil rfl, addL_cons h1, ih _ (fun c hc => h c (by simp [hc]))]
    simp
theorem one_meet {i j : Nat} (hij : j ≠ i) : meetL (oneM j) (oneM i) = [] := by
  refine meetL_eq ⟨trivial, fun x => ?_⟩
  simp only [Mem, oneM_in, InS, false_iff]
  rintro ⟨⟨_, _, h1⟩, _, _, h2⟩
  omega
theorem one_minus {i j : Nat} (hij : j ≠ i) (hj : 2 * (j : Int) ≤ 1073741824) : minusL (oneM j) (oneM i) = oneM j := by
  refine minusL_eq ⟨oneM_plain j hj, fun x => ?_⟩
  simp only [Mem, oneM_in]
  constructor
  · intro e; exact ⟨⟨by omega, by omega, e⟩, fun h => by have := h.2.2; omega⟩
  · exact fun h => h.1.2.2
theorem base_meet {i : Nat} {M : Int} (h0 : 0 ≤ M) (h : 2 * (i : Int) ≤ M) (hM : M ≤ 1073741824) : meetL (baseM i M) (oneM i) = oneM i := by
  refine meetL_eq ⟨oneM_plain i (by omega), fun x => ?_⟩
  show _ ↔ _ ∧ _
  rw [(baseM_plain i M h0 (by omega) hM).mem, baseM_in i M h0 (by omega), (oneM_plain i (by omega)).mem, oneM_in]
  constructor
  · intro e; exact ⟨⟨by omega, by omega, fun j hj => by omega⟩, e⟩
  · exact fun e => e.2
theorem base_minus {i : Nat} {M : Int} (h0 : 0 ≤ M) (h : 2 * (i : Int) + 1 ≤ M) (hM : M ≤ 1073741824) : minusL (baseM i M) (oneM i) = baseM (i + 1) M := by
  refine minusL_eq ⟨baseM_plain (i + 1) M h0 (by omega) hM, fun x => ?_⟩
  show _ ↔ _ ∧ _
  rw [(baseM_plain i M h0 (by omega) hM).mem, baseM_in i M h0 (by omega), (oneM_plain i (by omega)).mem, oneM_in, baseM_in (i + 1) M h0 (by omega)]
  constructor
  · rintro ⟨h1, h2, h3⟩; exact ⟨⟨h1, h2, fun j hj => h3 j (by omega)⟩, h3 i (by omega)⟩
  · rintro ⟨⟨h1, h2, h3⟩, h4⟩
    refine ⟨h1, h2, fun j hj => ?_⟩
    by_cases e : j = i
    · rw [e]; exact h4
    · exact h3 j (by omega)
/-- the sorted one of lists whose least numbers are all others -/
theorem stab_is {P Q : List (List Sp)} (hp : Q.Perm P) (hu : Q.Pairwise fun a b => keyS a < keyS b) : stabS P = Q := by
  have hr := stabS_rel P
  have hp2 := hr.perm
  have hw : (stabS P).Pairwise fun a b => keyS a ≤ keyS b := by
    obtain ⟨ix, a1, e, a3⟩ := hr
    rw [e, List.pairwise_map]
    exact a3.imp fun h => by omega
  refine (hp2.trans hp.symm).eq_of_pairwise (le := fun a b => keyS a ≤ keyS b) (fun a b ha hb h1 h2 => ?_) hw (hu.imp fun h => by omega)
  have ha' : a ∈ Q := (hp2.trans hp.symm).mem_iff.1 ha
  obtain ⟨i, hi, rfl⟩ := List.getElem_of_mem ha'
  obtain ⟨j, hj, rfl⟩ := List.getElem_of_mem hb
  rw [List.pairwise_iff_getElem] at hu
  rcases Nat.lt_trichotomy i j with h | h | h
  · have := hu i j hi hj h; omega
  · subst h; rfl
  · have := hu j i hj hi h; omega
def manyP (i : Nat) (M : Int) : List (List Sp) := baseM i M :: manyF i
theorem manyP_len (i : Nat) (M : Int) : (manyP i M).length = i + 1 := by simp [manyP, manyF_len]
theorem manyP_up (i : Nat) (M : Int) : (manyP i M).Pairwise fun a b => keyS a < keyS b := by
  unfold manyP manyF
  rw [List.pairwise_cons, List.pairwise_map]
  refine ⟨fun b hb => ?_, ?_⟩
  · obtain ⟨j, hj, rfl⟩ := List.mem_map.1 hb
    rw [baseM_key]
    show (-5 : Int) < 2 * (j : Int)
    omega
  · exact List.pairwise_lt_range.imp fun h => by
      rename_i a b
      show 2 * (a : Int) < 2 * (b : Int)
      omega
theorem many_parts {i : Nat} {M : Int} (h0 : 0 ≤ M) (h : 2 * (i : Int) + 1 ≤ M) (hM : M ≤ 1073741824) : parts (oneM i) [] (manyP i M) = oneM i :: baseM (i + 1) M :: manyF i := by
  unfold manyP
  rw [parts, base_meet h0 (by omega) hM, base_minus h0 h hM, addL_cons (oneM_ne i), addL_cons (baseM_ne _ _), parts_apart]
  · rfl
  · intro b hb
    obtain ⟨j, hj, rfl⟩ := List.mem_map.1 hb
    have := List.mem_range.1 hj
    exact ⟨oneM_ne j, one_meet (by omega), one_minus (by omega) (by omega)⟩
theorem many_split {M : Int} (hM : M ≤ 1073741824) : ∀ i : Nat, 0 ≤ M → 2 * (i : Int) - 1 ≤ M → splitF [[(-5, M)]] (manyF i) = if 1024 < i + 1 then none else some (manyP i M) := by
  intro i
  induction i with
  | zero => intro h0 h; rfl
  | succ i ih =>
    intro h0 h
    rw [manyF_succ, splitF_append, ih h0 (by omega)]
    by_cases h1 : 1024 < i + 1
    · rw [if_pos h1, if_pos (by omega)]; rfl
    · rw [if_neg h1]
      show splitF (manyP i M) [oneM i] = _
      simp only [splitF]
      rw [many_parts h0 (by omega) hM]
      have hl : (oneM i :: baseM (i + 1) M :: manyF i).length = i + 1 + 1 := by simp [manyF_len]
      have hs : stabS (oneM i :: baseM (i + 1) M :: manyF i) = manyP (i + 1) M := by
        refine stab_is ?_ (manyP_up _ _)
        unfold manyP
        rw [manyF_succ]
        exact (List.Perm.cons _ (List.perm_append_singleton _ _)).trans (List.Perm.swap _ _ _)
      rw [hs, hl]
theorem many_splitL {k : Nat} (hk : 1 ≤ k) (hk2 : k ≤ 2000) : splitL [(-5, 3 * (k : Int))] (manyF k) = if 1024 < k + 1 then none else some (manyP k (3 * (k : Int))) := by
  unfold splitL
  rw [if_neg (by simp)]
  exact many_split (by omega) k (by omega) (by omega)
theorem many_rep (k : Nat) (hk2 : k ≤ 2000) : Rep [(-5, 3 * (k : Int))] (Mem [(-5, 3 * (k : Int))]) := Rep.self ⟨by show _ < (-5 : Int); omega, by show (-5 : Int) ≤ 3 * (k : Int); omega, by show 3 * (k : Int) ≤ _; omega, trivial⟩
end Go.Proofs.Ytdaagdohhnhbdaa
