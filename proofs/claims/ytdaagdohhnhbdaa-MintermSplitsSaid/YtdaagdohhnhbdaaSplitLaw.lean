/- Plain facts on what parting by one set after another makes: each number of the whole is in one block; a block's numbers are told apart by no set. No program in sight. Condition: none. -/
import Derived.Test.YtdaagdohhnhbdaaSplit
namespace Go.Proofs.Ytdaagdohhnhbdaa
open Go.RowKit
set_option linter.unusedVariables false

def cntX (P : List (List Sp)) (x : Int) : Nat := P.countP fun b => hasB b x
theorem cntX_append (P Q : List (List Sp)) (x : Int) : cntX (P ++ Q) x = cntX P x + cntX Q x := by unfold cntX; rw [List.countP_append]
theorem cntX_one (b : List Sp) (x : Int) : cntX [b] x = if hasB b x then 1 else 0 := by
  unfold cntX; rw [List.countP_cons, List.countP_nil]; simp
theorem hasB_nil (x : Int) : hasB [] x = false := by
  rw [← Bool.not_eq_true, hasB_iff]; rintro ⟨_, _, h⟩; exact h
theorem cntX_addL (P : List (List Sp)) (b : List Sp) (x : Int) : cntX (addL P b) x = cntX P x + cntX [b] x := by
  unfold addL
  split
  · rename_i h; subst h; rw [cntX_one, hasB_nil]; simp
  · exact cntX_append _ _ _
theorem hasB_meet (b s : List Sp) (x : Int) : hasB (meetL b s) x = (hasB b x && hasB s x) := by
  rw [Bool.eq_iff_iff, hasB_iff, (meetL_rep b s).out.mem, Bool.and_eq_true, hasB_iff, hasB_iff]
theorem hasB_minus (b s : List Sp) (x : Int) : hasB (minusL b s) x = (hasB b x && !hasB s x) := by
  rw [Bool.eq_iff_iff, hasB_iff, (minusL_rep b s).out.mem, Bool.and_eq_true, hasB_iff, Bool.not_eq_true', ← Bool.not_eq_true, hasB_iff]
theorem cntX_parts (s : List Sp) (x : Int) (L P : List (List Sp)) : cntX (parts s P L) x = cntX P x + cntX L x := by
  induction L generalizing P with
  | nil => simp [parts, cntX]
  | cons b L ih =>
    have e : cntX (b :: L) x = cntX [b] x + cntX L x := cntX_append [b] L x
    rw [parts, ih, cntX_addL, cntX_addL, e, cntX_one, cntX_one, cntX_one, hasB_meet, hasB_minus]
    cases hasB b x <;> cases hasB s x <;> simp <;> omega
theorem StabRel.perm {P Q : List (List Sp)} (h : StabRel P Q) : Q.Perm P := by
  obtain ⟨ix, h1, rfl, _⟩ := h
  have h2 := h1.map (fun i => P[i]!)
  have e : (List.range P.length).map (fun i => P[i]!) = P := by
    apply List.ext_getElem?
    intro k
    rw [List.getElem?_map]
    by_cases hk : k < P.length
    · rw [List.getElem?_range hk, List.getElem?_eq_getElem hk]
      simp [List.getElem?_eq_getElem hk]
    · rw [List.getElem?_eq_none (by simp; omega), List.getElem?_eq_none (by omega)]; rfl
  rwa [e] at h2
theorem cntX_perm {P Q : List (List Sp)} (h : Q.Perm P) (x : Int) : cntX Q x = cntX P x := by unfold cntX; exact h.countP_eq _
/-- where a part comes from -/
theorem parts_mem {s c : List Sp} {L P : List (List Sp)} (h : c ∈ parts s P L) : c ∈ P ∨ ∃ b ∈ L, c = meetL b s ∨ c = minusL b s := by
  induction L generalizing P with
  | nil => exact .inl h
  | cons b L ih =>
    rcases ih h with h | ⟨b', h1, h2⟩
    · have key : ∀ (Q : List (List Sp)) (y : List Sp), c ∈ addL Q y → c ∈ Q ∨ c = y := by
        intro Q y hy
        unfold addL at hy
        split at hy
        · exact .inl hy
        · rcases List.mem_append.1 hy with hy | hy
          · exact .inl hy
          · exact .inr (by simpa using hy)
      rcases key _ _ h with h | h
      · rcases key _ _ h with h | h
        · exact .inl h
        · exact .inr ⟨b, by simp, .inl h⟩
      · exact .inr ⟨b, by simp, .inr h⟩
    · exact .inr ⟨b', List.mem_cons_of_mem _ h1, h2⟩
/-- do the same sets have both? -/
def alikeB (fam : List (List Sp)) (x y : Int) : Bool := fam.all fun s => hasB s x == hasB s y
theorem alikeB_snoc (fam : List (List Sp)) (s : List Sp) (x y : Int) : alikeB (fam ++ [s]) x y = (alikeB fam x y && (hasB s x == hasB s y)) := by simp [alikeB]
structure Blocks (r : List Sp) (fam P : List (List Sp)) : Prop where
  one : ∀ x, cntX P x = if hasB r x then 1 else 0
  same : ∀ b ∈ P, ∀ x y, hasB b x = true → (hasB b y = true ↔ (hasB r y = true ∧ alikeB fam x y = true))
theorem Blocks.start {r : List Sp} : Blocks r [] [r] := ⟨fun x => cntX_one r x, fun b hb x y hx => by simp at hb; subst hb; simp [alikeB]⟩
theorem Blocks.inr {r : List Sp} {fam P : List (List Sp)} (h : Blocks r fam P) {b : List Sp} (hb : b ∈ P) {x : Int} (hx : hasB b x = true) : hasB r x = true := ((h.same b hb x x hx).1 hx).1
theorem Blocks.next {r s : List Sp} {fam P : List (List Sp)} (h : Blocks r fam P) {Q : List (List Sp)} (hq : StabRel (parts s [] P) Q) : Blocks r (fam ++ [s]) Q := by
  refine ⟨fun x => ?_, fun c hc x y hx => ?_⟩
  · rw [cntX_perm hq.perm, cntX_parts, show cntX [] x = 0 from rfl, Nat.zero_add]; exact h.one x
  · have hc' := (hq.mem c).1 hc
    rcases parts_mem hc' with h0 | ⟨b, hb, rfl | rfl⟩
    · cases h0
    · rw [hasB_meet, Bool.and_eq_true] at hx
      rw [hasB_meet, Bool.and_eq_true, h.same b hb x y hx.1, alikeB_snoc, Bool.and_eq_true, hx.2, and_assoc]
      simp
    · rw [hasB_minus, Bool.and_eq_true, Bool.not_eq_true'] at hx
      rw [hasB_minus, Bool.and_eq_true, h.same b hb x y hx.1, alikeB_snoc, Bool.and_eq_true, hx.2, and_assoc]
      simp
theorem splitF_stab {out : List (List Sp)} {s : List Sp} {fam P : List (List Sp)} : True := trivial
/-- every list of lists can be sorted -/
theorem stab_ex (P : List (List Sp)) : ∃ Q, StabRel P Q := by
  let le : Nat → Nat → Bool := fun i j => decide (keyS P[i]! < keyS P[j]! ∨ (keyS P[i]! = keyS P[j]! ∧ i ≤ j))
  have hp := List.mergeSort_perm (List.range P.length) le
  have hw := List.pairwise_mergeSort (le := le) (fun a b c h1 h2 => by simp only [le, decide_eq_true_eq] at *; omega) (fun a b => by simp only [le, Bool.or_eq_true, decide_eq_true_eq]; omega) (List.range P.length)
  refine ⟨_, (List.range P.length).mergeSort le, hp, rfl, ?_⟩
  have hnd : ((List.range P.length).mergeSort le).Nodup := hp.nodup_iff.2 List.nodup_range
  rw [List.pairwise_iff_getElem] at hw ⊢
  intro i j hi hj hij
  have h1 := hw i j hi hj hij
  simp only [le, decide_eq_true_eq] at h1
  have h2 : ((List.range P.length).mergeSort le)[i] ≠ ((List.range P.length).mergeSort le)[j] := by
    intro e
    rw [List.Nodup, List.pairwise_iff_getElem] at hnd
    exact hnd i j hi hj hij e
  rcases h1 with h1 | ⟨h1, h1'⟩
  · exact .inl h1
  · exact .inr ⟨h1, Nat.lt_of_le_of_ne h1' h2⟩
theorem stabS_rel (P : List (List Sp)) : StabRel P (stabS P) := by
  obtain ⟨Q, h⟩ := stab_ex P
  rw [stabS_eq h]; exact h
theorem splitF_blocks {r : List Sp} {fam : List (List Sp)} : ∀ {fam0 out P : List (List Sp)}, Blocks r fam0 out → splitF out fam = some P → Blocks r (fam0 ++ fam) P := by
  induction fam with
  | nil => intro fam0 out P h e; simp only [splitF] at e; injection e with e; subst e; rw [List.append_nil]; exact h
  | cons s fam ih =>
    intro fam0 out P h e
    simp only [splitF] at e
    split at e
    · cases e
    · have := ih (h.next (stabS_rel _)) e
      rwa [List.append_assoc] at this
theorem splitL_blocks {r : List Sp} {fam P : List (List Sp)} (h : splitL r fam = some P) : Blocks r fam P := by
  unfold splitL at h
  split at h
  · rename_i hr
    injection h with h
    subst h; subst hr
    exact ⟨fun x => by rw [hasB_nil]; rfl, fun b hb => by cases hb⟩
  · exact splitF_blocks Blocks.start h
/-- the last block that has x: has it y? -/
def tgL (P : List (List Sp)) (x y : Int) : Bool := P.foldl (fun t b => if hasB b x then hasB b y else t) false
theorem tgL_snoc (P : List (List Sp)) (b : List Sp) (x y : Int) : tgL (P ++ [b]) x y = if hasB b x then hasB b y else tgL P x y := by simp [tgL]
theorem tgL_some {P : List (List Sp)} {x y : Int} (h : cntX P x ≠ 0) : ∃ b ∈ P, hasB b x = true ∧ tgL P x y = hasB b y := by
  obtain ⟨n, hn⟩ : ∃ n, P.length = n := ⟨_, rfl⟩
  induction n generalizing P with
  | zero => rw [List.eq_nil_of_length_eq_zero hn] at h; exact absurd rfl h
  | succ n ih =>
    rcases List.eq_nil_or_concat P with rfl | ⟨Q, b, rfl⟩
    · simp at hn
    · rw [List.concat_eq_append] at *
      rw [tgL_snoc]
      by_cases hb : hasB b x = true
      · exact ⟨b, by simp, hb, by rw [if_pos hb]⟩
      · rw [cntX_append, cntX_one, if_neg hb, Nat.add_zero] at h
        obtain ⟨c, hc, h1, h2⟩ := ih h (by simp at hn; omega)
        exact ⟨c, by simp [hc], h1, by rw [if_neg hb]; exact h2⟩
/-- what the law says -/
theorem tells {r : List Sp} {fam P : List (List Sp)} (h : Blocks r fam P) (x y : Int) : cntX P x ≤ 1 ∧ cntX P y ≤ 1 ∧ (cntX P x = 1 ↔ hasB r x = true) ∧ (cntX P x ≠ 0 → cntX P y ≠ 0 → tgL P x y = alikeB fam x y) := by
  have h1 := h.one x
  have h2 := h.one y
  refine ⟨by rw [h1]; split <;> omega, by rw [h2]; split <;> omega, by rw [h1]; split <;> simp_all, fun hx hy => ?_⟩
  obtain ⟨b, hb, g1, g2⟩ := tgL_some (y := y) hx
  rw [g2, Bool.eq_iff_iff, h.same b hb x y g1]
  have : hasB r y = true := by
    rw [h2] at hy
    by_cases e : hasB r y = true
    · exact e
    · rw [if_neg e] at hy; exact absurd rfl hy
  simp [this]
end Go.Proofs.Ytdaagdohhnhbdaa
