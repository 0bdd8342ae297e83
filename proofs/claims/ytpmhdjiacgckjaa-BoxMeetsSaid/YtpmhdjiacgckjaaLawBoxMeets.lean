/- umlautlaw12.BoxMeets: the walk. Of any two lists of sets what they have in common, place by place, or that there is nothing; a window is in it just if it is in both. Condition: none beyond the row's own. -/
import Derived.Test.YtpmhdjiacgckjaaM24
namespace Go.Proofs.Ytpmhdjiacgckjaa
open Go.RowKit
set_option linter.unusedVariables false
set_option linter.unusedSimpArgs false
theorem meetL_len {a b : List (List Sp)} (h : a.length = b.length) : (meetL a b).length = a.length := by
  unfold meetL; rw [List.length_zipWith]; omega
theorem hit_meet {a b : List (List Sp)} (h : a.length = b.length) (w : List Int) : hitM (meetL a b) w ↔ (hitM a w ∧ hitM b w) := by
  rw [hitM_iff, hitM_iff, hitM_iff, meetL_len h]
  constructor
  · rintro ⟨h1, h2⟩
    have key : ∀ (k : Nat) s t x, a[k]? = some s → b[k]? = some t → w[k]? = some x → Mem s x ∧ Mem t x := fun k s t x hs ht hx => ((meet_rep s t).mem x).1 (h2 k _ x (meetL_at hs ht) hx)
    refine ⟨⟨h1, fun k s x hs hx => ?_⟩, ⟨by omega, fun k t x ht hx => ?_⟩⟩
    · have hk := (List.getElem?_eq_some_iff.1 hs).1
      exact (key k s _ x hs (List.getElem?_eq_getElem (by omega)) hx).1
    · have hk := (List.getElem?_eq_some_iff.1 ht).1
      exact (key k _ t x (List.getElem?_eq_getElem (by omega)) ht hx).2
  · rintro ⟨⟨h1, h2⟩, _, h3⟩
    refine ⟨h1, fun k r x hr hx => ?_⟩
    have hk := (List.getElem?_eq_some_iff.1 hx).1
    have e1 : a[k]? = some a[k] := List.getElem?_eq_getElem (by omega)
    have e2 : b[k]? = some b[k] := List.getElem?_eq_getElem (by omega)
    rw [meetL_at e1 e2] at hr
    injection hr with hr
    rw [← hr]
    exact ((meet_rep _ _).mem x).2 ⟨h2 k _ x e1 hx, h3 k _ x e2 hx⟩
theorem meetOk_iff {a b : List (List Sp)} : meetOk a b ↔ (a.length = b.length ∧ ∀ (i : Nat) s, i < a.length → (meetL a b)[i]? = some s → s ≠ []) := by
  unfold meetOk
  constructor
  · rintro ⟨h1, h2⟩; exact ⟨h1, fun i s _ hs => h2 s (List.mem_of_getElem? hs)⟩
  · rintro ⟨h1, h2⟩
    refine ⟨h1, fun s hs => ?_⟩
    obtain ⟨i, hi⟩ := List.getElem?_of_mem hs
    have := (List.getElem?_eq_some_iff.1 hi).1
    rw [meetL_len h1] at this
    exact h2 i s this hi
/-- what is met by a window is not empty -/
theorem meet_hit {a b : List (List Sp)} {w : List Int} (h1 : hitM a w) (h2 : hitM b w) : meetOk a b := by
  have hl1 := hitM_len h1
  have hl2 := hitM_len h2
  have h := (hit_meet (by omega) w).2 ⟨h1, h2⟩
  refine meetOk_iff.2 ⟨by omega, fun i s hi hs e => ?_⟩
  have := ((hitM_iff _ _).1 h).2 i s _ hs (List.getElem?_eq_getElem (by omega))
  rw [e] at this
  exact this.2.2
def G12 (A : Option Addr) (L : List Lst3) (B : Option Addr) (M : List Lst3) (C : Option Addr) (xs : List Int) (W : World) : Prop := LLx A L W ∧ LLx B M W ∧ RunesAt C xs W
set_option maxRecDepth 100000 in
set_option maxHeartbeats 32000000 in
theorem BoxMeets_walk (A : Option Addr) (n c : Nat) (L : List Lst3) (B : Option Addr) (m d : Nat) (M : List Lst3) (C : Option Addr) (cC : Nat) (xs : List Int) (w : World)
    (hs : SssIn w A n L) (ht : SssIn w B m M) (hr : RunesAt C xs w) (hl : xs.length ≤ cC) (hc : cC ≤ 9223372036854775807) :
    Calls Try.prog 5 #[.slice A n c, .slice B m d, .slice C xs.length cC] w fun e w' => e = .returned (.bool true) ∧ Below w.heap.size w w' := by
  obtain rfl := hs.1.len
  obtain rfl := ht.1.len
  have HK0 : Hid (St w w (fun V => SssIn V A L.length L ∧ SssIn V B M.length M ∧ RunesAt C xs V)) := Lib.hid (St.start fun V hV => ⟨⟨Items.below hs.1 SpI.lasts hV, hs.2⟩, ⟨Items.below ht.1 SpI.lasts hV, ht.2⟩, hr.below hV⟩)
  have HG8 := Lib.hid (great12_st HK0 (fun _ h => h.1) 0 0 0 0 0 none 0 0 (by omega) c none 0 0)
  clear hs ht hr hl hc
  go_enter Try.func5, Try.ntmps5
  go_wp2_with fail
  refine HG8.out.mono ?_
  rintro e w1 ⟨v, rfl, HV, HK1⟩
  clear HG8
  cases v with
  | true =>
    have HKA : Hid (St w w1 (fun _ => True)) := Lib.hid (HK1.out.weaken fun _ _ => trivial)
    go_wp2_with fail
    refine (awake12_st HKA).mono ?_
    rintro e w9 ⟨rfl, HK9⟩
    go_wp2_with fail
    go_ret
    exact ⟨rfl, HK9.out.2⟩
  | false =>
  have HVA := Lib.hid (HV.out rfl)
  clear HV
  have HG9 := Lib.hid (great12_st HK1 (fun _ h => h.2.1) 0 0 0 0 0 none 0 0 (by omega) d none 0 0)
  go_wp2_with fail
  refine HG9.out.mono ?_
  rintro e w2 ⟨v2, rfl, HV2, HK2⟩
  clear HG9
  have HKA : Hid (St w w2 (fun _ => True)) := Lib.hid (HK2.out.weaken fun _ _ => trivial)
  cases v2 with
  | true =>
    go_wp2_with fail
    refine (awake12_st HKA).mono ?_
    rintro e w9 ⟨rfl, HK9⟩
    go_wp2_with fail
    go_ret
    exact ⟨rfl, HK9.out.2⟩
  | false =>
  have HVB := Lib.hid (HV2.out rfl)
  clear HV2
  by_cases hx20 : 20 < xs.length
  · have hx20' : (xs.length : Int) > 20 := by omega
    go_wp2_with fail
    refine (awake12_st HKA).mono ?_
    rintro e w9 ⟨rfl, HK9⟩
    go_wp2_with fail
    go_ret
    exact ⟨rfl, HK9.out.2⟩
  have hx20' : ¬ (xs.length : Int) > 20 := by omega
  obtain ⟨_, _, hg3, hg4⟩ := HVA.out
  obtain ⟨_, _, hm3, hm4⟩ := HVB.out
  have HK3 : Hid (St w w2 (G12 A L B M C xs)) := Lib.hid (HK2.out.weaken fun V h => ⟨⟨⟨h.1.1.sl, fun i hi => SpI.lst (h.1.1.it i hi) (hg4 i hi)⟩, h.1.2⟩, ⟨⟨h.2.1.1.sl, fun i hi => SpI.lst (h.2.1.1.it i hi) (hm4 i hi)⟩, h.2.1.2⟩, h.2.2⟩)
  have HG4 := Lib.hid (And.intro hg4 hm4)
  clear HK0 HK1 HK2 hg4 hm4
  go_wp2_with fail
  refine (BMeet_st HK3 (fun _ h => h.1) (fun _ h => h.2.1) c d (by omega)).mono ?_
  have key : ∀ (e : Ending) (w4 : World), RetMeet w (bodies L) (bodies M) (G12 A L B M C xs) e w4 → ∃ (ok : Bool) (A2 : Option Addr) (O : List (Item Sp)) (c2 : Nat), e = .returned (.tuple #[.slice A2 O.length c2, .bool ok]) ∧ Hid (pB (meetOk (bodies L) (bodies M)) = ok) ∧ Hid (ok = true → bodies O = meetL (bodies L) (bodies M)) ∧ Hid (ok = false → O = []) ∧ Hid (St w w4 (fun V => LLx A2 O V ∧ G12 A L B M C xs V)) := by
    rintro e w4 (⟨h1, rfl, h2⟩ | ⟨h1, A2, O, c2, h2, rfl, h3⟩)
    · exact ⟨false, none, [], 0, rfl, Lib.hid (pB_false h1), Lib.hid (fun h => by cases h), Lib.hid (fun _ => rfl), Lib.hid (h2.out.weaken fun _ h => ⟨⟨Items.nil_ _ _ _, by simp⟩, h⟩)⟩
    · exact ⟨true, A2, O, c2, rfl, Lib.hid (pB_true h1), Lib.hid (fun _ => h2), Lib.hid (fun h => by cases h), h3⟩
  have HKEY := Lib.hid key
  clear key
  intro e w4 hret
  obtain ⟨ok, A2, O, c2, rfl, HOK, HOB, HON, HK4⟩ := HKEY.out e w4 hret
  clear hret HKEY HK3 HKA
  obtain ⟨e0, he0⟩ : ∃ v, ((L.length : Int) == (M.length : Int)) = v := ⟨_, rfl⟩
  have HE0 : Hid (e0 = true ↔ L.length = M.length) := Lib.hid (by rw [← he0, beq_iff_eq]; omega)
  go_wp2_with fail
  clear he0
  go_loopw [9, 10] (fun th iv wr => ∃ (j : Nat) (bo : Bool), j ≤ L.length ∧ iv = .int .i64 j ∧ th = .bool bo ∧ Hid (bo = true ↔ (L.length = M.length ∧ ∀ (i : Nat) s, i < j → (meetL (bodies L) (bodies M))[i]? = some s → s ≠ [])) ∧ Hid (St w wr (fun V => LLx A2 O V ∧ G12 A L B M C xs V))) (fun _ iv _ => L.length - (intOf iv).toNat)
  case atStart => exact ⟨0, e0, Nat.zero_le _, rfl, rfl, Lib.hid (HE0.out.trans ⟨fun h => ⟨h, fun i s hi => by omega⟩, fun h => h.1⟩), HK4⟩
  case round =>
  clear HK4
  obtain ⟨j, bo, hj, rfl, rfl, HTH, HK8⟩ := hrel
  by_cases hlt : j < L.length
  · cases bo with
    | true =>
      obtain ⟨hlen, hall⟩ := HTH.out.1 rfl
      obtain ⟨gb, go, ga, gc, g, hA, hLx, hgb, hcg, _⟩ := HK8.out.now.2.1.at_ (k := j) hlt
      obtain ⟨kb, ko, ka, kc, g2, hB, hMx, hkb, hck, _⟩ := HK8.out.now.2.2.1.at_ (k := j) (by omega)
      subst hA
      subst hB
      obtain ⟨r, hr⟩ := rep_meet g g2
      have hrp : (plL fun x => Mem g x ∧ Mem g2 x) = r := plL_eq hr.out
      have hat := meetL_at hgb hkb
      rw [hrp] at hat
      obtain ⟨v, hv⟩ : ∃ v, decide (0 < r.length) = v := ⟨_, rfl⟩
      have hvn : v = true ↔ r ≠ [] := by
        rw [← hv, decide_eq_true_iff]
        cases r <;> simp <;> omega
      have HN2 : Hid (v = true ↔ (L.length = M.length ∧ ∀ (i : Nat) s, i < j + 1 → (meetL (bodies L) (bodies M))[i]? = some s → s ≠ [])) := Lib.hid ⟨fun h => ⟨hlen, fun i s hi hs => by
        rcases Nat.lt_succ_iff_lt_or_eq.1 hi with hi | rfl
        · exact hall i s hi hs
        · rw [hat] at hs; injection hs with hs; subst hs; exact hvn.1 h⟩, fun h => hvn.2 (h.2 j r (by omega) hat)⟩
      have hg20 := HG4.out.1 _ (List.mem_of_getElem? hLx)
      have hm20 := HG4.out.2 _ (List.mem_of_getElem? hMx)
      simp only at hg20 hm20
      have hji : (j : Int) < (L.length : Int) := by omega
      have hjm : (j : Int) < (M.length : Int) := by omega
      have HLX := Lib.hid hLx
      have HMX := Lib.hid hMx
      have HKd : Hid (St w wr.drew (fun V => LLx A2 O V ∧ G12 (some ⟨gb, go, none⟩) L (some ⟨kb, ko, none⟩) M C xs V)) := Lib.hid (HK8.out.step ((Below.refl _ wr).drew))
      have HVD := Lib.hid hv
      clear hall hLx hgb hMx hkb hat hrp hvn hlen hv
      go_wp2_with fail
      refine wp_region_held_drew (by kernel_rfl) (S := fun V => V.cell? ⟨gb, go + j, none⟩ = some (.slice ga g.length gc) ∧ V.cell? ⟨kb, ko + j, none⟩ = some (.slice ka g2.length kc)) ⟨hcg, hck⟩ (fun hHeld => ?_)
      refine wpAnyH_take (i := 0) (v := ?_) rfl (by kernel_rfl) (by kernel_rfl) (by kernel_rfl) (fun _ _ _ h => h) (Or.inl ⟨by first | kernel_rfl | rfl, ?_⟩) (by assumption) ?_
      rotate_left
      · intro w hSw; (try dsimp only at hSw); go_simp; (try with_reducible rfl)
      (try simp only [Act.put, List.getElem_toArray, List.getElem_cons_succ, List.getElem_cons_zero, List.setIfInBounds_toArray, List.set_cons_zero, List.set_cons_succ])
      refine wpAnyH_take (i := 1) (v := ?_) rfl (by kernel_rfl) (by kernel_rfl) (by kernel_rfl) (fun _ _ _ h => h) (Or.inl ⟨by first | kernel_rfl | rfl, ?_⟩) (by assumption) ?_
      rotate_left
      · intro w hSw; (try dsimp only at hSw); go_simp; (try with_reducible rfl)
      (try simp only [Act.put, List.getElem_toArray, List.getElem_cons_succ, List.getElem_cons_zero, List.setIfInBounds_toArray, List.set_cons_zero, List.set_cons_succ])
      refine wpAnyH_take (i := 2) (v := ?_) rfl (by kernel_rfl) (by kernel_rfl) (by kernel_rfl) (fun _ _ _ h => h) (Or.inl ⟨by first | kernel_rfl | rfl, ?_⟩) (by assumption) ?_
      rotate_left
      · intro w hSw; (try dsimp only at hSw); go_simp; (try with_reducible rfl)
      (try simp only [Act.put, List.getElem_toArray, List.getElem_cons_succ, List.getElem_cons_zero, List.setIfInBounds_toArray, List.set_cons_zero, List.set_cons_succ])
      refine wpAnyH_take (i := 3) (v := ?_) rfl (by kernel_rfl) (by kernel_rfl) (by kernel_rfl) (fun _ _ _ h => h) (Or.inl ⟨by first | kernel_rfl | rfl, ?_⟩) (by assumption) ?_
      rotate_left
      · intro w hSw; (try dsimp only at hSw); go_simp; (try with_reducible rfl)
      (try simp only [Act.put, List.getElem_toArray, List.getElem_cons_succ, List.getElem_cons_zero, List.setIfInBounds_toArray, List.set_cons_zero, List.set_cons_succ])
      refine wpAnyH_take (i := 4) (v := ?_) rfl (by kernel_rfl) (by kernel_rfl) (by kernel_rfl) (fun _ _ _ h => h) (Or.inl ⟨by first | kernel_rfl | rfl, ?_⟩) (by assumption) ?_
      rotate_left
      · intro w hSw; (try dsimp only at hSw); go_simp; (try with_reducible rfl)
      (try simp only [Act.put, List.getElem_toArray, List.getElem_cons_succ, List.getElem_cons_zero, List.setIfInBounds_toArray, List.set_cons_zero, List.set_cons_succ])
      refine wpAnyH_take (i := 5) (v := ?_) rfl (by kernel_rfl) (by kernel_rfl) (by kernel_rfl) (fun _ _ _ h => h) (Or.inl ⟨by first | kernel_rfl | rfl, ?_⟩) (by assumption) ?_
      rotate_left
      · intro w hSw; (try dsimp only at hSw); go_simp; (try with_reducible rfl)
      (try simp only [Act.put, List.getElem_toArray, List.getElem_cons_succ, List.getElem_cons_zero, List.setIfInBounds_toArray, List.set_cons_zero, List.set_cons_succ])
      refine wpAnyH_take (i := 6) (v := ?_) rfl (by kernel_rfl) (by kernel_rfl) (by kernel_rfl) (fun _ _ _ h => h) (Or.inl ⟨by first | kernel_rfl | rfl, ?_⟩) (by assumption) ?_
      rotate_left
      · intro w hSw; (try dsimp only at hSw); go_simp; (try with_reducible rfl)
      (try simp only [Act.put, List.getElem_toArray, List.getElem_cons_succ, List.getElem_cons_zero, List.setIfInBounds_toArray, List.set_cons_zero, List.set_cons_succ])
      refine wpAnyH_take (i := 7) (v := ?_) rfl (by kernel_rfl) (by kernel_rfl) (by kernel_rfl) (fun _ _ _ h => h) (Or.inl ⟨by first | kernel_rfl | rfl, ?_⟩) (by assumption) ?_
      rotate_left
      · intro w hSw; (try dsimp only at hSw); go_simp; (try with_reducible rfl)
      (try simp only [Act.put, List.getElem_toArray, List.getElem_cons_succ, List.getElem_cons_zero, List.setIfInBounds_toArray, List.set_cons_zero, List.set_cons_succ])
      refine wpAnyH_ready (rs := [8]) (by kernel_rfl) (by simp) (AllReadyH.cons rfl (fun K hK => ?_) AllReadyH.nil)
      go_simp
      refine (rMeet_st HKd (fun _ h => (Items.cell h.2.1.1 HLX.out).2) (fun _ h => (Items.cell h.2.2.1.1 HMX.out).2) (by omega) (by omega) gc kc hr).mono ?_
      rintro e w7 ⟨A7, c7, rfl, HK9⟩
      have hb7 := HK9.out.now
      refine hK.out _ _ (⟨(Items.cell hb7.2.2.1.1 HLX.out).1, (Items.cell hb7.2.2.2.1.1 HMX.out).1⟩) (fun hHeld => ?_)
      clear hK K
      (try simp only [Act.put, List.getElem_toArray, List.getElem_cons_succ, List.getElem_cons_zero, List.setIfInBounds_toArray, List.set_cons_zero, List.set_cons_succ])
      refine wpAnyH_take (i := 9) (v := ?_) rfl (by kernel_rfl) (by kernel_rfl) (by kernel_rfl) (fun _ _ _ h => h) (Or.inl ⟨by first | kernel_rfl | rfl, ?_⟩) (by assumption) ?_
      rotate_left
      · intro w hSw; (try dsimp only at hSw); go_simp; (try with_reducible rfl)
      (try simp only [Act.put, List.getElem_toArray, List.getElem_cons_succ, List.getElem_cons_zero, List.setIfInBounds_toArray, List.set_cons_zero, List.set_cons_succ])
      refine wpAnyH_take (i := 10) (v := ?_) rfl (by kernel_rfl) (by kernel_rfl) (by kernel_rfl) (fun _ _ _ h => h) (Or.inl ⟨by first | kernel_rfl | rfl, ?_⟩) (by assumption) ?_
      rotate_left
      · intro w hSw; (try dsimp only at hSw); go_simp; (try with_reducible rfl)
      (try simp only [Act.put, List.getElem_toArray, List.getElem_cons_succ, List.getElem_cons_zero, List.setIfInBounds_toArray, List.set_cons_zero, List.set_cons_succ])
      refine wpAnyH_take (i := 11) (v := ?_) rfl (by kernel_rfl) (by kernel_rfl) (by kernel_rfl) (fun _ _ _ h => h) (Or.inl ⟨by first | kernel_rfl | rfl, ?_⟩) (by assumption) ?_
      rotate_left
      · intro w hSw; (try dsimp only at hSw); go_simp; (try with_reducible rfl)
      (try simp only [Act.put, List.getElem_toArray, List.getElem_cons_succ, List.getElem_cons_zero, List.setIfInBounds_toArray, List.set_cons_zero, List.set_cons_succ])
      refine wpAnyH_done (by kernel_rfl) ?_ _
      clear hHeld
      rw [HVD.out]
      go_wp2_with fail
      exact ⟨⟨j + 1, v, by omega, by go_num, rfl, HN2, Lib.hid (HK9.out.weaken fun _ h => h.2)⟩, by simp [intOf]; omega⟩
    | false =>
      have HBF : Hid (false = ok) := Lib.hid (by
        have hn : ¬ meetOk (bodies L) (bodies M) := fun h => by
          have h2 := meetOk_iff.1 h
          rw [bodies_length, bodies_length] at h2
          have := HTH.out.2 ⟨h2.1, fun i s hi hs => h2.2 i s (by omega) hs⟩
          cases this
        rw [← HOK.out, pB_false hn])
      obtain rfl : ok = false := HBF.out.symm
      obtain rfl : O = [] := HON.out rfl
      have HKX := HK8
      have hji : (j : Int) < (L.length : Int) := by omega
      clear hlt hj HBF HTH
      go_wp2_with fail
      go_loopw [11] (fun iv wr => iv = .int .i64 0 ∧ Hid (St w wr (fun V => LLx A2 ([] : List (Item Sp)) V ∧ G12 A L B M C xs V))) (fun _ _ => 0)
      case atStart => exact ⟨rfl, HK8⟩
      case round =>
      clear HKX HK8
      obtain ⟨rfl, HKX⟩ := hrel
      by_cases hlen : L.length = M.length
      · have hne1 : ((L.length : Int) != (M.length : Int)) = false := by rw [bne_eq_false_iff_eq]; omega
        have hne2 : ((L.length : Int) == (M.length : Int)) = true := by rw [beq_iff_eq]; omega
        clear hlen
        by_cases ha : hitM (bodies L) xs
        · have HVA2 := Lib.hid (pB_true ha)
          have HVB2 := Lib.hid (pB_false (p := hitM (bodies M) xs) (fun hb => by have h := pB_true (meet_hit ha hb); rw [HOK.out] at h; cases h))
          clear ha
          go_wp2_with fail
          refine (In_st HKX (fun _ h => h.2.1) (fun _ h => h.2.2.2) c cC true HVA2).mono ?_
          rintro e wa ⟨rfl, HKa⟩
          go_wp2_with fail
          refine (In_st HKa (fun _ h => h.2.2.1) (fun _ h => h.2.2.2) d cC false HVB2).mono ?_
          rintro e wb ⟨rfl, HKb⟩
          have HKA : Hid (St w wb (fun _ => True)) := Lib.hid (HKb.out.weaken fun _ _ => trivial)
          go_wp2_with fail
          refine (awake12_st HKA).mono ?_
          rintro e w9 ⟨rfl, HK9⟩
          go_wp2_with fail
          go_ret
          exact ⟨rfl, HK9.out.2⟩
        · have HVA2 := Lib.hid (pB_false ha)
          clear ha
          go_wp2_with fail
          refine (In_st HKX (fun _ h => h.2.1) (fun _ h => h.2.2.2) c cC false HVA2).mono ?_
          rintro e wa ⟨rfl, HKa⟩
          have HKA : Hid (St w wa (fun _ => True)) := Lib.hid (HKa.out.weaken fun _ _ => trivial)
          go_wp2_with fail
          refine (awake12_st HKA).mono ?_
          rintro e w9 ⟨rfl, HK9⟩
          go_wp2_with fail
          go_ret
          exact ⟨rfl, HK9.out.2⟩
      · have hne1 : ((L.length : Int) != (M.length : Int)) = true := by rw [bne_iff_ne]; omega
        have hne2 : ((L.length : Int) == (M.length : Int)) = false := by rw [beq_eq_false_iff_ne]; omega
        clear hlen
        have HKA : Hid (St w wr (fun _ => True)) := Lib.hid (HKX.out.weaken fun _ _ => trivial)
        go_wp2_with fail
        refine (awake12_st HKA).mono ?_
        rintro e w9 ⟨rfl, HK9⟩
        go_wp2_with fail
        go_ret
        exact ⟨rfl, HK9.out.2⟩
  · have hjx : j = L.length := by omega
    subst hjx
    have hdd2 : decide ((L.length : Int) < (L.length : Int)) = false := by simp
    have HBF : Hid (bo = ok) := Lib.hid (by
      have h1 : bo = true ↔ meetOk (bodies L) (bodies M) := by
        rw [meetOk_iff, bodies_length, bodies_length]
        exact HTH.out
      have h2 : ok = true ↔ meetOk (bodies L) (bodies M) := by rw [← HOK.out]; exact pB_iff
      cases bo <;> cases ok <;> simp_all)
    have hbo := HBF.out
    subst hbo
    clear hlt hj HBF HTH
    cases bo with
    | false =>
      obtain rfl : O = [] := HON.out rfl
      have HKX := HK8
      go_wp2_with fail
      go_loopw [11] (fun iv wr => iv = .int .i64 0 ∧ Hid (St w wr (fun V => LLx A2 ([] : List (Item Sp)) V ∧ G12 A L B M C xs V))) (fun _ _ => 0)
      case atStart => exact ⟨rfl, HK8⟩
      case round =>
      clear HKX HK8
      obtain ⟨rfl, HKX⟩ := hrel
      by_cases hlen : L.length = M.length
      · have hne1 : ((L.length : Int) != (M.length : Int)) = false := by rw [bne_eq_false_iff_eq]; omega
        have hne2 : ((L.length : Int) == (M.length : Int)) = true := by rw [beq_iff_eq]; omega
        clear hlen
        by_cases ha : hitM (bodies L) xs
        · have HVA2 := Lib.hid (pB_true ha)
          have HVB2 := Lib.hid (pB_false (p := hitM (bodies M) xs) (fun hb => by have h := pB_true (meet_hit ha hb); rw [HOK.out] at h; cases h))
          clear ha
          go_wp2_with fail
          refine (In_st HKX (fun _ h => h.2.1) (fun _ h => h.2.2.2) c cC true HVA2).mono ?_
          rintro e wa ⟨rfl, HKa⟩
          go_wp2_with fail
          refine (In_st HKa (fun _ h => h.2.2.1) (fun _ h => h.2.2.2) d cC false HVB2).mono ?_
          rintro e wb ⟨rfl, HKb⟩
          have HKA : Hid (St w wb (fun _ => True)) := Lib.hid (HKb.out.weaken fun _ _ => trivial)
          go_wp2_with fail
          refine (awake12_st HKA).mono ?_
          rintro e w9 ⟨rfl, HK9⟩
          go_wp2_with fail
          go_ret
          exact ⟨rfl, HK9.out.2⟩
        · have HVA2 := Lib.hid (pB_false ha)
          clear ha
          go_wp2_with fail
          refine (In_st HKX (fun _ h => h.2.1) (fun _ h => h.2.2.2) c cC false HVA2).mono ?_
          rintro e wa ⟨rfl, HKa⟩
          have HKA : Hid (St w wa (fun _ => True)) := Lib.hid (HKa.out.weaken fun _ _ => trivial)
          go_wp2_with fail
          refine (awake12_st HKA).mono ?_
          rintro e w9 ⟨rfl, HK9⟩
          go_wp2_with fail
          go_ret
          exact ⟨rfl, HK9.out.2⟩
      · have hne1 : ((L.length : Int) != (M.length : Int)) = true := by rw [bne_iff_ne]; omega
        have hne2 : ((L.length : Int) == (M.length : Int)) = false := by rw [beq_eq_false_iff_ne]; omega
        clear hlen
        have HKA : Hid (St w wr (fun _ => True)) := Lib.hid (HKX.out.weaken fun _ _ => trivial)
        go_wp2_with fail
        refine (awake12_st HKA).mono ?_
        rintro e w9 ⟨rfl, HK9⟩
        go_wp2_with fail
        go_ret
        exact ⟨rfl, HK9.out.2⟩
    | true =>
      have HOB2 := Lib.hid (HOB.out rfl)
      have HMO : Hid (meetOk (bodies L) (bodies M)) := Lib.hid (pB_iff.1 HOK.out)
      have HLM : Hid (L.length = M.length) := Lib.hid (by have h := HMO.out.1; rwa [bodies_length, bodies_length] at h)
      have HOL : Hid (O.length = L.length) := Lib.hid (by
        have h := congrArg List.length HOB2.out
        rw [bodies_length, meetL_len HMO.out.1, bodies_length] at h; exact h)
      have hne1 : ((L.length : Int) != (M.length : Int)) = false := by rw [bne_eq_false_iff_eq, HLM.out]
      have hne2 : ((L.length : Int) == (M.length : Int)) = true := by rw [beq_iff_eq, HLM.out]
      have hne3 : ((O.length : Int) != (L.length : Int)) = false := by rw [bne_eq_false_iff_eq, HOL.out]
      have hne4 : ((O.length : Int) == (L.length : Int)) = true := by rw [beq_iff_eq, HOL.out]
      go_wp2_with fail
      go_loopw [11] (fun iv wr => ∃ j : Nat, j ≤ O.length ∧ iv = .int .i64 j ∧ Hid (St w wr (fun V => LLx A2 O V ∧ G12 A L B M C xs V))) (fun iv _ => O.length - (intOf iv).toNat)
      case atStart => exact ⟨0, Nat.zero_le _, rfl, HK8⟩
      case round =>
      clear HK8
      obtain ⟨j, hj, rfl, HK8⟩ := hrel
      by_cases hlt : j < O.length
      · have hjl : j < L.length := by rw [← HOL.out]; exact hlt
        obtain ⟨ob, oo, oa, oc, o, hA2, hOx, hob, hco, hlo⟩ := HK8.out.now.1.at_ (k := j) hlt
        obtain ⟨gb, go, ga, gc, g, hA, hLx, hgb, hcg, _⟩ := HK8.out.now.2.1.at_ (k := j) hjl
        obtain ⟨kb, ko, ka, kc, g2, hB, hMx, hkb, hck, _⟩ := HK8.out.now.2.2.1.at_ (k := j) (by rw [← HLM.out]; exact hjl)
        subst hA2
        subst hA
        subst hB
        obtain ⟨r, hr⟩ := rep_meet g g2
        have hrp : (plL fun x => Mem g x ∧ Mem g2 x) = r := plL_eq hr.out
        have hat := meetL_at hgb hkb
        rw [hrp, ← HOB2.out, hob] at hat
        obtain rfl : o = r := by injection hat
        have hg20 := HG4.out.1 _ (List.mem_of_getElem? hLx)
        have hm20 := HG4.out.2 _ (List.mem_of_getElem? hMx)
        simp only at hg20 hm20
        have hjo : (j : Int) < (O.length : Int) := by omega
        have hji : (j : Int) < (L.length : Int) := by omega
        have hjm : (j : Int) < (M.length : Int) := by rw [← HLM.out]; exact hji
        have HLX := Lib.hid hLx
        have HMX := Lib.hid hMx
        have HOX := Lib.hid hOx
        have HKd : Hid (St w wr.drew (fun V => LLx (some ⟨ob, oo, none⟩) O V ∧ G12 (some ⟨gb, go, none⟩) L (some ⟨kb, ko, none⟩) M C xs V)) := Lib.hid (HK8.out.step ((Below.refl _ wr).drew))
        clear hLx hgb hMx hkb hat hrp hOx hob hlo hne1 hne2 hne3 hne4
        go_wp2_with fail
        refine wp_region_held_drew (by kernel_rfl) (S := fun V => V.cell? ⟨ob, oo + j, none⟩ = some (.slice oa o.length oc) ∧ V.cell? ⟨gb, go + j, none⟩ = some (.slice ga g.length gc) ∧ V.cell? ⟨kb, ko + j, none⟩ = some (.slice ka g2.length kc)) ⟨hco, hcg, hck⟩ (fun hHeld => ?_)
        refine wpAnyH_take (i := 0) (v := ?_) rfl (by kernel_rfl) (by kernel_rfl) (by kernel_rfl) (fun _ _ _ h => h) (Or.inl ⟨by first | kernel_rfl | rfl, ?_⟩) (by assumption) ?_
        rotate_left
        · intro w hSw; (try dsimp only at hSw); go_simp; (try with_reducible rfl)
        (try simp only [Act.put, List.getElem_toArray, List.getElem_cons_succ, List.getElem_cons_zero, List.setIfInBounds_toArray, List.set_cons_zero, List.set_cons_succ])
        refine wpAnyH_take (i := 1) (v := ?_) rfl (by kernel_rfl) (by kernel_rfl) (by kernel_rfl) (fun _ _ _ h => h) (Or.inl ⟨by first | kernel_rfl | rfl, ?_⟩) (by assumption) ?_
        rotate_left
        · intro w hSw; (try dsimp only at hSw); go_simp; (try with_reducible rfl)
        (try simp only [Act.put, List.getElem_toArray, List.getElem_cons_succ, List.getElem_cons_zero, List.setIfInBounds_toArray, List.set_cons_zero, List.set_cons_succ])
        refine wpAnyH_take (i := 2) (v := ?_) rfl (by kernel_rfl) (by kernel_rfl) (by kernel_rfl) (fun _ _ _ h => h) (Or.inl ⟨by first | kernel_rfl | rfl, ?_⟩) (by assumption) ?_
        rotate_left
        · intro w hSw; (try dsimp only at hSw); go_simp; (try with_reducible rfl)
        (try simp only [Act.put, List.getElem_toArray, List.getElem_cons_succ, List.getElem_cons_zero, List.setIfInBounds_toArray, List.set_cons_zero, List.set_cons_succ])
        refine wpAnyH_take (i := 3) (v := ?_) rfl (by kernel_rfl) (by kernel_rfl) (by kernel_rfl) (fun _ _ _ h => h) (Or.inl ⟨by first | kernel_rfl | rfl, ?_⟩) (by assumption) ?_
        rotate_left
        · intro w hSw; (try dsimp only at hSw); go_simp; (try with_reducible rfl)
        (try simp only [Act.put, List.getElem_toArray, List.getElem_cons_succ, List.getElem_cons_zero, List.setIfInBounds_toArray, List.set_cons_zero, List.set_cons_succ])
        refine wpAnyH_take (i := 4) (v := ?_) rfl (by kernel_rfl) (by kernel_rfl) (by kernel_rfl) (fun _ _ _ h => h) (Or.inl ⟨by first | kernel_rfl | rfl, ?_⟩) (by assumption) ?_
        rotate_left
        · intro w hSw; (try dsimp only at hSw); go_simp; (try with_reducible rfl)
        (try simp only [Act.put, List.getElem_toArray, List.getElem_cons_succ, List.getElem_cons_zero, List.setIfInBounds_toArray, List.set_cons_zero, List.set_cons_succ])
        refine wpAnyH_take (i := 5) (v := ?_) rfl (by kernel_rfl) (by kernel_rfl) (by kernel_rfl) (fun _ _ _ h => h) (Or.inl ⟨by first | kernel_rfl | rfl, ?_⟩) (by assumption) ?_
        rotate_left
        · intro w hSw; (try dsimp only at hSw); go_simp; (try with_reducible rfl)
        (try simp only [Act.put, List.getElem_toArray, List.getElem_cons_succ, List.getElem_cons_zero, List.setIfInBounds_toArray, List.set_cons_zero, List.set_cons_succ])
        refine wpAnyH_take (i := 6) (v := ?_) rfl (by kernel_rfl) (by kernel_rfl) (by kernel_rfl) (fun _ _ _ h => h) (Or.inl ⟨by first | kernel_rfl | rfl, ?_⟩) (by assumption) ?_
        rotate_left
        · intro w hSw; (try dsimp only at hSw); go_simp; (try with_reducible rfl)
        (try simp only [Act.put, List.getElem_toArray, List.getElem_cons_succ, List.getElem_cons_zero, List.setIfInBounds_toArray, List.set_cons_zero, List.set_cons_succ])
        refine wpAnyH_take (i := 7) (v := ?_) rfl (by kernel_rfl) (by kernel_rfl) (by kernel_rfl) (fun _ _ _ h => h) (Or.inl ⟨by first | kernel_rfl | rfl, ?_⟩) (by assumption) ?_
        rotate_left
        · intro w hSw; (try dsimp only at hSw); go_simp; (try with_reducible rfl)
        (try simp only [Act.put, List.getElem_toArray, List.getElem_cons_succ, List.getElem_cons_zero, List.setIfInBounds_toArray, List.set_cons_zero, List.set_cons_succ])
        refine wpAnyH_take (i := 8) (v := ?_) rfl (by kernel_rfl) (by kernel_rfl) (by kernel_rfl) (fun _ _ _ h => h) (Or.inl ⟨by first | kernel_rfl | rfl, ?_⟩) (by assumption) ?_
        rotate_left
        · intro w hSw; (try dsimp only at hSw); go_simp; (try with_reducible rfl)
        (try simp only [Act.put, List.getElem_toArray, List.getElem_cons_succ, List.getElem_cons_zero, List.setIfInBounds_toArray, List.set_cons_zero, List.set_cons_succ])
        refine wpAnyH_take (i := 9) (v := ?_) rfl (by kernel_rfl) (by kernel_rfl) (by kernel_rfl) (fun _ _ _ h => h) (Or.inl ⟨by first | kernel_rfl | rfl, ?_⟩) (by assumption) ?_
        rotate_left
        · intro w hSw; (try dsimp only at hSw); go_simp; (try with_reducible rfl)
        (try simp only [Act.put, List.getElem_toArray, List.getElem_cons_succ, List.getElem_cons_zero, List.setIfInBounds_toArray, List.set_cons_zero, List.set_cons_succ])
        refine wpAnyH_take (i := 10) (v := ?_) rfl (by kernel_rfl) (by kernel_rfl) (by kernel_rfl) (fun _ _ _ h => h) (Or.inl ⟨by first | kernel_rfl | rfl, ?_⟩) (by assumption) ?_
        rotate_left
        · intro w hSw; (try dsimp only at hSw); go_simp; (try with_reducible rfl)
        (try simp only [Act.put, List.getElem_toArray, List.getElem_cons_succ, List.getElem_cons_zero, List.setIfInBounds_toArray, List.set_cons_zero, List.set_cons_succ])
        refine wpAnyH_take (i := 11) (v := ?_) rfl (by kernel_rfl) (by kernel_rfl) (by kernel_rfl) (fun _ _ _ h => h) (Or.inl ⟨by first | kernel_rfl | rfl, ?_⟩) (by assumption) ?_
        rotate_left
        · intro w hSw; (try dsimp only at hSw); go_simp; (try with_reducible rfl)
        (try simp only [Act.put, List.getElem_toArray, List.getElem_cons_succ, List.getElem_cons_zero, List.setIfInBounds_toArray, List.set_cons_zero, List.set_cons_succ])
        refine wpAnyH_ready (rs := [12]) (by kernel_rfl) (by simp) (AllReadyH.cons rfl (fun K hK => ?_) AllReadyH.nil)
        go_simp
        refine (rMeet_st HKd (fun _ h => (Items.cell h.2.1.1 HLX.out).2) (fun _ h => (Items.cell h.2.2.1.1 HMX.out).2) (by omega) (by omega) gc kc hr).mono ?_
        rintro e w7 ⟨A7, c7, rfl, HK9⟩
        have hb7 := HK9.out.now
        refine hK.out _ _ (⟨(Items.cell hb7.2.1.1 HOX.out).1, (Items.cell hb7.2.2.1.1 HLX.out).1, (Items.cell hb7.2.2.2.1.1 HMX.out).1⟩) (fun hHeld => ?_)
        clear hK K
        (try simp only [Act.put, List.getElem_toArray, List.getElem_cons_succ, List.getElem_cons_zero, List.setIfInBounds_toArray, List.set_cons_zero, List.set_cons_succ])
        refine wpAnyH_ready (rs := [13]) (by kernel_rfl) (by simp) (AllReadyH.cons rfl (fun K hK => ?_) AllReadyH.nil)
        go_simp
        refine (Same_st HK9 (fun _ h => (Items.cell h.2.1.1 HOX.out).2) (fun _ h => h.1) oc c7 (v := true) (by simp)).mono ?_
        rintro e w8 ⟨rfl, HK10⟩
        have hb8 := HK10.out.now
        refine hK.out _ _ (⟨(Items.cell hb8.2.1.1 HOX.out).1, (Items.cell hb8.2.2.1.1 HLX.out).1, (Items.cell hb8.2.2.2.1.1 HMX.out).1⟩) (fun hHeld => ?_)
        clear hK K
        (try simp only [Act.put, List.getElem_toArray, List.getElem_cons_succ, List.getElem_cons_zero, List.setIfInBounds_toArray, List.set_cons_zero, List.set_cons_succ])
        refine wpAnyH_take (i := 14) (v := ?_) rfl (by kernel_rfl) (by kernel_rfl) (by kernel_rfl) (fun _ _ _ h => h) (Or.inl ⟨by first | kernel_rfl | rfl, ?_⟩) (by assumption) ?_
        rotate_left
        · intro w hSw; (try dsimp only at hSw); go_simp; (try with_reducible rfl)
        (try simp only [Act.put, List.getElem_toArray, List.getElem_cons_succ, List.getElem_cons_zero, List.setIfInBounds_toArray, List.set_cons_zero, List.set_cons_succ])
        refine wpAnyH_done (by kernel_rfl) ?_ _
        clear hHeld
        go_wp2_with fail
        exact ⟨⟨j + 1, by omega, by go_num, Lib.hid (HK10.out.weaken fun _ h => h.2)⟩, by simp [intOf]; omega⟩
      · have hjo : j = O.length := by omega
        subst hjo
        have hdd3 : decide ((O.length : Int) < (O.length : Int)) = false := by simp
        have HKX := HK8
        have HIT : Hid (hitM (bodies O) xs ↔ (hitM (bodies L) xs ∧ hitM (bodies M) xs)) := Lib.hid (by rw [HOB2.out]; exact hit_meet HMO.out.1 xs)
        clear hlt hj
        by_cases ha : hitM (bodies L) xs
        · have HVA2 := Lib.hid (pB_true ha)
          by_cases hb : hitM (bodies M) xs
          · have HVB2 := Lib.hid (pB_true hb)
            have HVC2 := Lib.hid (pB_true (HIT.out.2 ⟨ha, hb⟩))
            clear ha hb
            go_wp2_with fail
            refine (In_st HKX (fun _ h => h.2.1) (fun _ h => h.2.2.2) c cC true HVA2).mono ?_
            rintro e wa ⟨rfl, HKa⟩
            go_wp2_with fail
            refine (In_st HKa (fun _ h => h.2.2.1) (fun _ h => h.2.2.2) d cC true HVB2).mono ?_
            rintro e wb ⟨rfl, HKb⟩
            go_wp2_with fail
            refine (In_st HKb (fun _ h => h.1) (fun _ h => h.2.2.2) c2 cC true HVC2).mono ?_
            rintro e wc ⟨rfl, HKc⟩
            have HKA : Hid (St w wc (fun _ => True)) := Lib.hid (HKc.out.weaken fun _ _ => trivial)
            go_wp2_with fail
            refine (awake12_st HKA).mono ?_
            rintro e w9 ⟨rfl, HK9⟩
            go_wp2_with fail
            go_ret
            exact ⟨rfl, HK9.out.2⟩
          · have HVB2 := Lib.hid (pB_false hb)
            have HVC2 := Lib.hid (pB_false (p := hitM (bodies O) xs) (fun h => hb (HIT.out.1 h).2))
            clear ha hb
            go_wp2_with fail
            refine (In_st HKX (fun _ h => h.2.1) (fun _ h => h.2.2.2) c cC true HVA2).mono ?_
            rintro e wa ⟨rfl, HKa⟩
            go_wp2_with fail
            refine (In_st HKa (fun _ h => h.2.2.1) (fun _ h => h.2.2.2) d cC false HVB2).mono ?_
            rintro e wb ⟨rfl, HKb⟩
            go_wp2_with fail
            refine (In_st HKb (fun _ h => h.1) (fun _ h => h.2.2.2) c2 cC false HVC2).mono ?_
            rintro e wc ⟨rfl, HKc⟩
            have HKA : Hid (St w wc (fun _ => True)) := Lib.hid (HKc.out.weaken fun _ _ => trivial)
            go_wp2_with fail
            refine (awake12_st HKA).mono ?_
            rintro e w9 ⟨rfl, HK9⟩
            go_wp2_with fail
            go_ret
            exact ⟨rfl, HK9.out.2⟩
        · have HVA2 := Lib.hid (pB_false ha)
          have HVC2 := Lib.hid (pB_false (p := hitM (bodies O) xs) (fun h => ha (HIT.out.1 h).1))
          clear ha
          go_wp2_with fail
          refine (In_st HKX (fun _ h => h.2.1) (fun _ h => h.2.2.2) c cC false HVA2).mono ?_
          rintro e wa ⟨rfl, HKa⟩
          go_wp2_with fail
          refine (In_st HKa (fun _ h => h.1) (fun _ h => h.2.2.2) c2 cC false HVC2).mono ?_
          rintro e wc ⟨rfl, HKc⟩
          have HKA : Hid (St w wc (fun _ => True)) := Lib.hid (HKc.out.weaken fun _ _ => trivial)
          go_wp2_with fail
          refine (awake12_st HKA).mono ?_
          rintro e w9 ⟨rfl, HK9⟩
          go_wp2_with fail
          go_ret
          exact ⟨rfl, HK9.out.2⟩
end Go.Proofs.Ytpmhdjiacgckjaa
