/- Plain facts on the blocks that a family makes: they don't hang on the order in which its sets stand; those that meet a set are all of it within the whole. No program in sight. Condition: none. -/
import Derived.Test.YtdaagdohhnhbdaaSplitLaw
namespace Go.Proofs.Ytdaagdohhnhbdaa
open Go.RowKit
set_option linter.unusedVariables false

/-- parted by one set after another, however many blocks there are -/
noncomputable def splitG : List (List Sp) → List (List Sp) → List (List Sp)
  | out, [] => out
  | out, s :: fam => splitG (stabS (parts s [] out)) fam
/-- blocks in their order: none is empty, each is plain, their least numbers rise -/
structure Ord (P : List (List Sp)) : Prop where
  ne : ∀ b ∈ P, b ≠ [] ∧ Plain b
  up : P.Pairwise fun a b => keyS a < keyS b
theorem keyS_in {b : List Sp} (h : b ≠ []) (hp : Plain b) : hasB b (keyS b) = true := by
  cases b with
  | nil => exact absurd rfl h
  | cons p l =>
    obtain ⟨h1, h2, h3, h4⟩ := hp
    rw [hasB_iff]
    exact ⟨by show _ ≤ p.1; omega, by show p.1 ≤ _; omega, .inl ⟨Int.le_refl _, h2⟩⟩
theorem cntX_two {P : List (List Sp)} {i j : Nat} (hi : i < P.length) (hj : j < P.length) (hij : i < j) {x : Int} (h1 : hasB P[i] x = true) (h2 : hasB P[j] x = true) : 2 ≤ cntX P x := by
  have e : P = P.take j ++ P[j] :: P.drop (j + 1) := by rw [List.getElem_cons_drop, List.take_append_drop]
  have e2 : cntX P x = cntX (P.take j) x + cntX (P[j] :: P.drop (j + 1)) x := by rw [← cntX_append, ← e]
  have a1 : 1 ≤ cntX (P.take j) x := by
    unfold cntX
    exact List.countP_pos_iff.2 ⟨P[i], List.mem_iff_getElem?.2 ⟨i, by rw [List.getElem?_take_of_lt hij]; exact List.getElem?_eq_getElem hi⟩, h1⟩
  have a2 : 1 ≤ cntX (P[j] :: P.drop (j + 1)) x := by
    unfold cntX
    exact List.countP_pos_iff.2 ⟨P[j], List.mem_cons_self, h2⟩
  omega
theorem addL_mem {P : List (List Sp)} {x c : List Sp} (h : c ∈ addL P x) : c ∈ P ∨ (c = x ∧ x ≠ []) := by
  unfold addL at h
  split at h
  · exact .inl h
  · rename_i hx
    rcases List.mem_append.1 h with h | h
    · exact .inl h
    · simp at h; exact .inr ⟨h, hx⟩
theorem parts_ne {s : List Sp} {L P : List (List Sp)} (hP : ∀ b ∈ P, b ≠ [] ∧ Plain b) : ∀ c ∈ parts s P L, c ≠ [] ∧ Plain c := by
  induction L generalizing P with
  | nil => exact hP
  | cons b L ih =>
    refine ih fun c hc => ?_
    rcases addL_mem hc with hc | ⟨rfl, hx⟩
    · rcases addL_mem hc with hc | ⟨rfl, hx⟩
      · exact hP c hc
      · exact ⟨hx, (meetL_rep b s).out.1⟩
    · exact ⟨hx, (minusL_rep b s).out.1⟩
theorem parts_grow {s : List Sp} {L P : List (List Sp)} (hL : ∀ b ∈ L, b ≠ [] ∧ Plain b) : P.length + L.length ≤ (parts s P L).length := by
  induction L generalizing P with
  | nil => simp [parts]
  | cons b L ih =>
    obtain ⟨h1, h2⟩ := hL b (by simp)
    have hk := keyS_in h1 h2
    have : P.length + 1 ≤ (addL (addL P (meetL b s)) (minusL b s)).length := by
      by_cases hm : meetL b s = []
      · have hd : minusL b s ≠ [] := by
          intro hd
          have g1 := hasB_meet b s (keyS b)
          have g2 := hasB_minus b s (keyS b)
          rw [hm, hasB_nil, hk] at g1
          rw [hd, hasB_nil, hk] at g2
          simp at g1 g2
          rw [g1] at g2
          cases g2
        have : addL (addL P (meetL b s)) (minusL b s) = addL P (meetL b s) ++ [minusL b s] := if_neg hd
        rw [this, List.length_append]
        have := addL_len P (meetL b s)
        simp; omega
      · have e : addL P (meetL b s) = P ++ [meetL b s] := if_neg hm
        have := addL_len (addL P (meetL b s)) (minusL b s)
        rw [e, List.length_append] at this
        rw [e]
        simp at this ⊢; omega
    have h3 := ih (P := addL (addL P (meetL b s)) (minusL b s)) (fun b hb => hL b (by simp [hb]))
    simp only [parts, List.length_cons]
    omega
theorem Ord.next {r s : List Sp} {fam P Q : List (List Sp)} (h : Ord P) (hb : Blocks r fam P) (hq : StabRel (parts s [] P) Q) : Ord Q := by
  have hne : ∀ b ∈ Q, b ≠ [] ∧ Plain b := fun b hbq => parts_ne (s := s) (L := P) (P := []) (fun b hb => by cases hb) b ((hq.mem b).1 hbq)
  have hB := hb.next hq
  refine ⟨hne, ?_⟩
  have hq' := hq
  obtain ⟨ix, a1, e, a3⟩ := hq'
  have hw : Q.Pairwise fun a b => keyS a ≤ keyS b := by
    rw [e, List.pairwise_map]
    exact a3.imp fun h => by omega
  rw [List.pairwise_iff_getElem] at hw ⊢
  intro i j hi hj hij
  have h1 := hw i j hi hj hij
  have h2 : keyS Q[i] ≠ keyS Q[j] := by
    intro ek
    have k1 := keyS_in (hne _ (List.getElem_mem hi)).1 (hne _ (List.getElem_mem hi)).2
    have k2 := keyS_in (hne _ (List.getElem_mem hj)).1 (hne _ (List.getElem_mem hj)).2
    rw [ek] at k1
    have := cntX_two hi hj hij k1 k2
    rw [hB.one] at this
    split at this <;> omega
  omega
theorem splitG_ord {r : List Sp} {fam : List (List Sp)} : ∀ {fam0 out : List (List Sp)}, Blocks r fam0 out → Ord out → Blocks r (fam0 ++ fam) (splitG out fam) ∧ Ord (splitG out fam) := by
  induction fam with
  | nil => intro fam0 out h k; rw [List.append_nil]; exact ⟨h, k⟩
  | cons s fam ih =>
    intro fam0 out h k
    have := ih (h.next (stabS_rel (parts s [] out))) (k.next h (stabS_rel (parts s [] out)))
    rwa [List.append_assoc] at this
theorem splitG_len {r : List Sp} {fam : List (List Sp)} : ∀ {fam0 out : List (List Sp)}, Blocks r fam0 out → Ord out → out.length ≤ (splitG out fam).length := by
  induction fam with
  | nil => intro fam0 out h k; exact Nat.le_refl _
  | cons s fam ih =>
    intro fam0 out h k
    have h1 := ih (h.next (stabS_rel (parts s [] out))) (k.next h (stabS_rel (parts s [] out)))
    have h2 := parts_grow (s := s) (P := []) k.ne
    rw [(stabS_rel (parts s [] out)).len] at h1
    simp at h2
    simp only [splitG]
    omega
theorem splitF_G {r : List Sp} {fam : List (List Sp)} : ∀ {fam0 out : List (List Sp)}, Blocks r fam0 out → Ord out → out.length ≤ 1024 → splitF out fam = if 1024 < (splitG out fam).length then none else some (splitG out fam) := by
  induction fam with
  | nil => intro fam0 out h k hl; exact (if_neg (Nat.not_lt.2 hl)).symm
  | cons s fam ih =>
    intro fam0 out h k hl
    have hb := h.next (stabS_rel (parts s [] out))
    have ho := k.next h (stabS_rel (parts s [] out))
    simp only [splitF, splitG]
    by_cases hbig : 1024 < (parts s [] out).length
    · have := splitG_len (fam := fam) hb ho
      rw [(stabS_rel (parts s [] out)).len] at this
      rw [if_pos hbig]
      exact (if_pos (by omega)).symm
    · rw [if_neg hbig]
      exact ih hb ho (by rw [(stabS_rel (parts s [] out)).len]; omega)
/-- a family's blocks hang on its sets alone -/
theorem ord_unique {r : List Sp} {f1 f2 P Q : List (List Sp)} (h1 : Blocks r f1 P) (k1 : Ord P) (h2 : Blocks r f2 Q) (k2 : Ord Q) (hf : ∀ x y, alikeB f1 x y = alikeB f2 x y) : P = Q := by
  have sub : ∀ {f1 f2 P Q : List (List Sp)}, Blocks r f1 P → Ord P → Blocks r f2 Q → Ord Q → (∀ x y, alikeB f1 x y = alikeB f2 x y) → ∀ b ∈ P, b ∈ Q := by
    intro f1 f2 P Q h1 k1 h2 k2 hf b hb
    obtain ⟨n1, n2⟩ := k1.ne b hb
    have hk := keyS_in n1 n2
    have hr := h1.inr hb hk
    have hc : cntX Q (keyS b) ≠ 0 := by rw [h2.one, if_pos hr]; simp
    obtain ⟨c, hc1, hc2⟩ : ∃ c ∈ Q, hasB c (keyS b) = true := by
      have : 0 < cntX Q (keyS b) := by omega
      unfold cntX at this
      exact List.countP_pos_iff.1 this
    have e : b = c := by
      refine PlainF.unique n2 (k2.ne c hc1).2 fun y => ?_
      rw [← n2.mem, ← (k2.ne c hc1).2.mem, ← hasB_iff, ← hasB_iff, h1.same b hb _ y hk, h2.same c hc1 _ y hc2, hf]
    rw [e]; exact hc1
  have nd : ∀ {P : List (List Sp)}, Ord P → P.Nodup := fun k => k.up.imp fun h e => by rw [e] at h; omega
  have hp : P.Perm Q := (List.perm_ext_iff_of_nodup (nd k1) (nd k2)).2 fun b => ⟨sub h1 k1 h2 k2 hf b, sub h2 k2 h1 k1 (fun x y => (hf x y).symm) b⟩
  exact hp.eq_of_pairwise (le := fun a b => keyS a < keyS b) (fun a b _ _ h k => by omega) k1.up k2.up
theorem alikeB_rev (fam : List (List Sp)) (x y : Int) : alikeB fam.reverse x y = alikeB fam x y := by unfold alikeB; rw [List.all_reverse]
theorem Ord.start {r : List Sp} (h : Plain r) (h0 : r ≠ []) : Ord [r] := ⟨fun b hb => by simp at hb; subst hb; exact ⟨h0, h⟩, by simp⟩
/-- in whichever order the sets stand -/
theorem splitL_rev {r : List Sp} (h : Plain r) (fam : List (List Sp)) : splitL r fam.reverse = splitL r fam := by
  unfold splitL
  by_cases h0 : r = []
  · rw [if_pos h0, if_pos h0]
  · rw [if_neg h0, if_neg h0]
    have hb := Blocks.start (r := r)
    have ho := Ord.start h h0
    rw [splitF_G hb ho (by simp), splitF_G hb ho (by simp)]
    obtain ⟨b1, o1⟩ := splitG_ord (fam := fam.reverse) hb ho
    obtain ⟨b2, o2⟩ := splitG_ord (fam := fam) hb ho
    have e := ord_unique b1 o1 b2 o2 (fun x y => by simp only [List.nil_append]; exact alikeB_rev fam x y)
    rw [e]
/-- the blocks that meet a set of the family are what the whole has of it -/
theorem blocks_union {r : List Sp} {fam P : List (List Sp)} (h : Blocks r fam P) {s : List Sp} (hs : s ∈ fam) (x : Int) :
    (∃ b ∈ P, (∃ y, hasB b y = true ∧ hasB s y = true) ∧ hasB b x = true) ↔ (hasB r x = true ∧ hasB s x = true) := by
  constructor
  · rintro ⟨b, hb, ⟨y, hy1, hy2⟩, hx⟩
    obtain ⟨h1, h2⟩ := (h.same b hb y x hy1).1 hx
    unfold alikeB at h2
    have := List.all_eq_true.1 h2 s hs
    rw [hy2] at this
    exact ⟨h1, by simpa using this⟩
  · rintro ⟨h1, h2⟩
    have hc : 0 < cntX P x := by rw [h.one, if_pos h1]; omega
    unfold cntX at hc
    obtain ⟨b, hb, hx⟩ := List.countP_pos_iff.1 hc
    exact ⟨b, hb, ⟨x, hx, h2⟩, hx⟩
end Go.Proofs.Ytdaagdohhnhbdaa
