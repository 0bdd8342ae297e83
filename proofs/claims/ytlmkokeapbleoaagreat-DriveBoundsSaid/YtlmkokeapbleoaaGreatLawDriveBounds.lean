/- umlautlaw19.DriveBounds: the call returns true. Condition: the table and the operations are known. -/
import Derived.Test.YtlmkokeapbleoaaGreatM20
import Derived.Test.YtlmkokeapbleoaaGreatM07
namespace Go.Proofs.YtlmkokeapbleoaaGreat
open Go.RowKit Go.Shelf
set_option linter.unusedVariables false
set_option linter.unusedSimpArgs false
theorem ops_small {T : TabL} {l : List OpI} (h : ¬ GreatO T l) : SmallT T ∧ l.length ≤ 60 ∧ ∀ o ∈ l, o.b.length ≤ 600 := by
  have h1 : SmallT T := Classical.not_not.1 fun q => h (.inl q)
  have h2 : l.length ≤ 60 := Nat.le_of_not_lt fun q => h (.inr (.inl q))
  have h3 : sumO l ≤ 600 := Nat.le_of_not_lt fun q => h (.inr (.inr q))
  refine ⟨h1, h2, fun o ho => ?_⟩
  have h4 : min o.b.length 2000 ≤ sumO l := by
    clear h1 h2 h3 h
    unfold sumO
    induction l with
    | nil => cases ho
    | cons x l ih =>
      rw [List.map_cons, List.sum_cons]
      rcases List.mem_cons.1 ho with rfl | h
      · omega
      · have := ih h; omega
  omega
theorem foldl_max_le (l : List Nat) (n m : Nat) (hn : n ≤ m) (h : ∀ x ∈ l, x ≤ m) : l.foldl max n ≤ m := by
  induction l generalizing n with
  | nil => exact hn
  | cons a l ih => exact ih _ (Nat.max_le.2 ⟨hn, h a List.mem_cons_self⟩) fun x hx => h x (List.mem_cons_of_mem _ hx)
theorem most64 {T : TabL} (h : TabOk T) : mostL T ≤ 64 := by
  refine foldl_max_le _ _ _ (foldl_max_le _ _ _ (Nat.zero_le _) fun x hx => ?_) fun x hx => ?_
  · obtain ⟨a, ha, rfl⟩ := List.mem_map.1 hx
    exact (h.acts a ha).2.2.2.2
  · obtain ⟨a, ha, rfl⟩ := List.mem_map.1 hx
    exact h.ends a ha
theorem clS_most {T : TabL} (s : DrvS) : (clS T s).2.1.length ≤ mostL T := by
  unfold clS
  split
  · exact Nat.zero_le _
  · split
    · exact Nat.zero_le _
    · refine Nat.le_trans (wrB_len _ _) ?_
      rcases h : T.ends[(endL' T s.1.node).toNat]? with _ | x
      · simp [List.getD_eq_getElem?_getD, h]
      · rw [List.getD_eq_getElem?_getD, h]; exact most_end (List.mem_of_getElem? h)
/-- what a Write tells: the bound, and that nothing is held behind a rejection -/
theorem wrS_bound {T : TabL} (h : TabOk T) {s : DrvS} (hs : Drv.Ok (heldL T) T.nodes.length s.1) (b : List Int) :
    (wrS T s b).2.1.length + mostL T * (wrS T s b).1.1.held.length ≤ mostL T * (s.1.held.length + b.length) ∧ ((wrS T s b).2.2 = 7 → (wrS T s b).1.1.held = []) := by
  unfold wrS
  split
  · refine ⟨by simp only [List.length_nil, Nat.zero_add]; exact Nat.mul_le_mul_left _ (by omega), fun h7 => ?_⟩
    unfold errI at h7
    rcases hr : s.1.rej with _ | _
    · rw [hr] at h7
      rcases h2 : s.2 with _ | _
      · rw [h2] at h7; simp at h7
      · rw [h2] at h7; simp at h7
    · show s.1.held = []
      rw [hs.rej hr]; rfl
  · refine ⟨Drv.bound (drv_right h) s.1 b hs, fun h7 => ?_⟩
    have h1 := Drv.Ok.go (drv_right h) s.1 b hs
    simp only at h7
    rcases hr : (Drv.go (drvM T) s.1 b).1.rej with _ | _
    · rw [hr] at h7; simp at h7
    · show (Drv.go (drvM T) s.1 b).1.held = []
      rw [h1.rej hr]; rfl
set_option maxRecDepth 100000 in
set_option maxHeartbeats 64000000 in
theorem DriveBounds_walk (cs : Array Value) (T : TabI) (A : Option Addr) (c : Nat) (l : List OpI) (w : World) (hC : TabC cs T) (hT : TabW T w) (hL : OpsAt A l w) :
    Calls Tryz.prog 15 #[.agg cs, .slice A l.length c] w fun e w' => e = .returned (.bool true) ∧ Below w.heap.size w w' := by
  obtain ⟨wa, hwa⟩ : ∃ z, w.alloc (.cells cs 49) = z := ⟨_, rfl⟩
  have HK1 : Hid (St w wa (fun W => TabBox w.heap.size cs W ∧ TabW T W ∧ OpsAt A l W)) := by rw [← hwa]; exact St.tbox (Lib.hid (St.start fun W hW => ⟨hT.below hW, hL.below hW⟩)) cs
  have HC := Lib.hid hC
  have HI : Hid ((Tryz.prog.info? 49).map (·.size) = some cs.size) := Lib.hid (by rw [hC.size]; exact info_tabS)
  have hln := hL.ln
  have HLW : Hid (∀ V, Below w.heap.size w V → OpsAt A l V) := Lib.hid fun V hV => hL.below hV
  clear hC hT hL
  go_enter Tryz.func15, Tryz.ntmps15
  by_cases hg : GreatO T.L l
  · have HG := Lib.hid (pB_true hg)
    clear hg
    go_wp2_with (first
      | (refine wpList_load_row rfl 49 _ rfl w.heap.size rfl _ cs _ _ HK1.out.now.1 Tryz.underlying49 rfl HI.out ?_)
      | (go_at_call 37; refine (great19_st HK1 cs T HC.out (fun _ h => h.2.1) (fun _ h => h.2.2) c true HG).mono ?_; rintro e w2 ⟨rfl, HK2⟩)
      | (go_at_call 38; refine (awake19_st HK2).mono ?_; rintro e w3 ⟨rfl, HK3⟩))
    go_ret
    exact ⟨rfl, HK3.out.2⟩
  obtain ⟨hs1, hs2, hs3⟩ := ops_small hg
  have HG := Lib.hid (pB_false hg)
  have HS := Lib.hid hs1
  have HS3 := Lib.hid hs3
  clear hg hs1 hs3
  by_cases hok : TabOk T.L
  case neg =>
    have HV := Lib.hid (pB_false hok)
    clear hok
    go_wp2_with (first
      | (refine wpList_load_row rfl 49 _ rfl w.heap.size rfl _ cs _ _ HK1.out.now.1 Tryz.underlying49 rfl HI.out ?_)
      | (go_at_call 37; refine (great19_st HK1 cs T HC.out (fun _ h => h.2.1) (fun _ h => h.2.2) c false HG).mono ?_; rintro e w2 ⟨rfl, HK2⟩))
    refine wp_load_row 49 _ rfl w.heap.size rfl _ cs _ _ HK2.out.now.1 Tryz.underlying49 rfl HI.out ?_
    go_wp2_with fail
    refine (new_st w2 cs T HC.out HK2.out.now.2.1 HS.out false HV).mono ?_
    rintro e w3 (⟨-, rfl, HB3⟩ | ⟨h, -⟩)
    · go_wp2_with (go_at_call 38; refine (awake19_st (Lib.hid (HK2.out.step HB3.out))).mono ?_; rintro e w4 ⟨rfl, HK4⟩)
      go_ret
      exact ⟨rfl, HK4.out.2⟩
    · cases h
  have HV := Lib.hid (pB_true hok)
  have HOK := Lib.hid hok
  clear hok
  go_wp2_with (first
    | (refine wpList_load_row rfl 49 _ rfl w.heap.size rfl _ cs _ _ HK1.out.now.1 Tryz.underlying49 rfl HI.out ?_)
    | (go_at_call 37; refine (great19_st HK1 cs T HC.out (fun _ h => h.2.1) (fun _ h => h.2.2) c false HG).mono ?_; rintro e w2 ⟨rfl, HK2⟩))
  refine wp_load_row 49 _ rfl w.heap.size rfl _ cs _ _ HK2.out.now.1 Tryz.underlying49 rfl HI.out ?_
  go_wp2_with fail
  refine (new_st w2 cs T HC.out HK2.out.now.2.1 HS.out true HV).mono ?_
  rintro e w3 (⟨h, -⟩ | ⟨-, db, cs', T', rfl, HT', HD, HDP, HB3, hdb⟩)
  · cases h
  have HTL : Hid (T'.L = T.L) := Lib.hid HT'.out.2
  have HD3 : Hid (DrvK (fun k => k = db) db cs' T' s00 none 0 w3) := Lib.hid (drvNew HT'.out.1 (by rw [HTL.out]; exact HOK.out) HD.out HDP.out)
  have HDB : Hid (w.heap.size ≤ db) := Lib.hid (by have := HK2.out.2.size; omega)
  have HK3 : Hid (St w w3 (fun W => TabBox w.heap.size cs W ∧ TabW T W ∧ OpsAt A l W)) := Lib.hid (HK2.out.step HB3.out)
  clear hdb HD HDP HT'
  obtain ⟨mo, hmo⟩ : ∃ z, mostL T.L = z := ⟨_, rfl⟩
  have HMO := Lib.hid hmo
  have hmoX := HMO
  have hmo64 : mo ≤ 64 := by rw [← hmo]; exact most64 HOK.out
  clear hmo
  go_wp2_with fail
  refine wp_load_row 49 _ rfl w.heap.size rfl _ cs _ _ HK3.out.now.1 Tryz.underlying49 rfl HI.out ?_
  go_wp2_with (go_at_call 35; refine (Most_st (St.here HK3) cs T HC.out (fun _ h => h.2.1) mo HMO).mono ?_; rintro e w4 ⟨rfl, HK4⟩)
  have HD4 : Hid (DrvK (fun k => k = db) db cs' T' s00 none 0 w4) := Lib.hid (HD3.out.step (BelD.of_below HK4.out.2) (HK4.out.2.block _ HD3.out.box.lt))
  have HB4 : Hid (Below w.heap.size w w4) := Lib.hid (HK3.out.2.trans (HK4.out.2.mono HK3.out.2.size))
  have HSZ : Hid (cs'.size = 259) := Lib.hid HD4.out.tc.size
  clear HK1 HK2 HK3 HK4 HD3 HG HS HV HMO
  have HMO : Hid (mostL T'.L = mo) := Lib.hid (by rw [HTL.out]; exact hmoX.out)
  go_loopw [8] (fun iv wr => ∃ (k : Nat) (s : DrvS) (ha : Option Addr) (hc : Nat), k ≤ l.length ∧ iv = .int .i64 k ∧ Hid (DrvK (fun k => k = db) db cs' T' s ha hc wr) ∧ Hid (Below w.heap.size w wr)) (fun iv _ => l.length - (intOf iv).toNat)
  case atStart => exact ⟨0, s00, none, 0, Nat.zero_le _, rfl, HD4, HB4⟩
  case round =>
  clear HD4 HB4
  obtain ⟨k, s, ha, hc, hk, rfl, HDr, HBW⟩ := hrel
  by_cases hlt : k < l.length
  case neg =>
    obtain rfl : k = l.length := by omega
    have hd : decide (l.length < l.length) = false := by simp
    go_wp2_with (go_at_call 38; refine (awake19_st (w0 := w) (F := fun _ => True) (Lib.hid ⟨fun _ _ => trivial, HBW.out⟩)).mono ?_; rintro e w5 ⟨rfl, HK5⟩)
    go_ret
    exact ⟨rfl, HK5.out.2⟩
  obtain ⟨b, off, o, rfl, hx, hw, p0, p1⟩ := (HLW.out wr HBW.out).at_ hlt
  have hlti : (k : Int) < (l.length : Int) := by omega
  have hh4 : s.1.held.length ≤ 4 := drv_len HDr.out.ok HDr.out.sok
  have HSL : Hid (Sl wr 1 ha s.1.held.length (s.1.held.map (Value.int .u8))) := Lib.hid (by
    have h := (HDr.out.dep wr (BelD.refl _ _)).2.sl
    rwa [← List.map_eq_flatMap] at h)
  have HO6 : Hid (o.b.length ≤ 600) := Lib.hid (HS3.out o (List.mem_of_getElem? hx))
  have hob := HO6.out
  have HX := Lib.hid hx
  clear hx hw
  go_wp2_with fail
  refine (Held_st HDr.out.box HSZ.out HSL.out (by omega)).mono ?_
  rintro e w5 ⟨A5, c5, rfl, HO5, HB5⟩
  have HD5 : Hid (DrvK (fun k => k = db) db cs' T' s ha hc w5) := Lib.hid (HDr.out.step (BelD.of_below HB5.out) (HB5.out.block _ HDr.out.box.lt))
  have HB5W : Hid (Below w.heap.size w w5) := Lib.hid (HBW.out.trans (HB5.out.mono HBW.out.size))
  have q0 := (HB5.out.cell (lt_of_cell p0)).trans p0
  have q1 := (HB5.out.cell (lt_of_cell p1)).trans p1
  clear p0 p1
  obtain ⟨oa, oc, ob, ocl⟩ := o
  rcases ocl with _ | _
  case true =>
    obtain ⟨⟨s2, o2, e2⟩, hcl⟩ : ∃ z, clS T'.L s = z := ⟨_, rfl⟩
    have HCL := Lib.hid hcl
    have ho2 : o2.length ≤ mo := by have h := clS_most (T := T'.L) s; rw [hcl, HMO.out] at h; exact h
    have hg : decide ((mo : Int) < (o2.length : Int)) = false := by simp; omega
    have hg2 : ¬ (mo : Int) < (o2.length : Int) := by omega
    clear hcl
    go_wp2_with fail
    refine (Close_st HD5).mono ?_
    rintro e w6 ⟨A6, c6, ha6, hc6, rfl, HK6, HB6, HY6, HR6, HL6⟩
    rw [HCL.out] at HK6 HY6 HR6 HL6
    rw [HCL.out]
    simp only at HK6 HY6 HR6 HL6 ⊢
    go_wp2_with fail
    go_roundw
    case rel => exact ⟨k + 1, s2, ha6, hc6, by omega, by go_num, HK6, Lib.hid (HB5W.out.trans (HB6.out.below (fun k hk => by have e : k = db := hk; have := HDB.out; omega) HB5W.out.size))⟩
    case measure => simp [intOf]; omega
  obtain ⟨⟨s2, o2, e2⟩, hwr⟩ : ∃ z, wrS T'.L s ob = z := ⟨_, rfl⟩
  have HWR := Lib.hid hwr
  have hbd := wrS_bound HDr.out.ok HDr.out.sok ob
  rw [hwr, HMO.out] at hbd
  have HBD := Lib.hid hbd
  have HOB : Hid (∀ V, BelD (fun k => k = db) w5 V → BytesAt oa ob V) := Lib.hid fun V hV =>
    (HLW.out V (HB5W.out.trans (hV.below (fun k hk => by have e : k = db := hk; have := HDB.out; omega) HB5W.out.size))).it _ (List.mem_of_getElem? HX.out)
  have hob : ob.length ≤ 600 := HO6.out
  clear hwr hbd
  go_wp2_with fail
  refine (Write_st HD5 oc HOB (by omega)).mono ?_
  rintro e w6 ⟨A6, c6, ha6, hc6, rfl, HK6, HB6, HY6, HR6, HL6⟩
  rw [HWR.out] at HK6 HY6 HR6 HL6
  rw [HWR.out]
  simp only at HK6 HY6 HR6 HL6 ⊢
  go_wp2_with fail
  have HB6W : Hid (Below w.heap.size w w6) := Lib.hid (HB5W.out.trans (HB6.out.below (fun k hk => by have e : k = db := hk; have := HDB.out; omega) HB5W.out.size))
  have HF6 : Hid (∀ V, Below w.heap.size w V → V.cell? ⟨b, off + k * 2, none⟩ = some (.slice oa ob.length oc)) := Lib.hid fun V hV => by
    obtain ⟨b', off', o', e, hx, -, p0, -⟩ := (HLW.out V hV).at_ hlt
    injection e with e; injection e with e1 e2; subst e1 e2
    rw [HX.out] at hx; injection hx with hx; subst hx
    exact p0
  have hh2 : s2.1.held.length ≤ 4 := drv_len HK6.out.ok HK6.out.sok
  have HD6 : Hid (∀ V, Below w6.heap.size w6 V → DrvK (fun k => k = db) db cs' T' s2 ha6 hc6 V ∧ Sl V 1 ha6 s2.1.held.length (s2.1.held.map (Value.int .u8))) := Lib.hid fun V hV => by
    have h1 := HK6.out.step (BelD.of_below hV) (hV.block _ HK6.out.box.lt)
    refine ⟨h1, ?_⟩
    have h := (h1.dep V (BelD.refl _ _)).2.sl
    rwa [← List.map_eq_flatMap] at h
  clear q0 q1
  refine wp_region_Z 12 (by kernel_rfl) (fun V => V.cell? ⟨b, off + k * 2, none⟩ = some (.slice oa ob.length oc)) (HF6.out _ HB6W.out.drew) (fun hHeld => ?_)
  refine wpAnyZ_take (i := 0) (v := ?_) rfl (by kernel_rfl) (by kernel_rfl) (by kernel_rfl) (by kernel_rfl) (fun _ _ _ h => h) (Or.inl ⟨by first | kernel_rfl | rfl, ?_⟩) (by assumption) ?_
  rotate_left
  · intro w hSw; (try dsimp only at hSw); go_simp; (try with_reducible rfl)
  (try simp only [Act.put, List.getElem_toArray, List.getElem_cons_succ, List.getElem_cons_zero, List.setIfInBounds_toArray, List.set_cons_zero, List.set_cons_succ])
  refine wpAnyZ_take (i := 1) (v := ?_) rfl (by kernel_rfl) (by kernel_rfl) (by kernel_rfl) (by kernel_rfl) (fun _ _ _ h => h) (Or.inl ⟨by first | kernel_rfl | rfl, ?_⟩) (by assumption) ?_
  rotate_left
  · intro w hSw; (try dsimp only at hSw); go_simp; (try with_reducible rfl)
  (try simp only [Act.put, List.getElem_toArray, List.getElem_cons_succ, List.getElem_cons_zero, List.setIfInBounds_toArray, List.set_cons_zero, List.set_cons_succ])
  refine wpAnyZ_take (i := 2) (v := ?_) rfl (by kernel_rfl) (by kernel_rfl) (by kernel_rfl) (by kernel_rfl) (fun _ _ _ h => h) (Or.inl ⟨by first | kernel_rfl | rfl, ?_⟩) (by assumption) ?_
  rotate_left
  · intro w hSw; (try dsimp only at hSw); go_simp; (try with_reducible rfl)
  (try simp only [Act.put, List.getElem_toArray, List.getElem_cons_succ, List.getElem_cons_zero, List.setIfInBounds_toArray, List.set_cons_zero, List.set_cons_succ])
  refine wpAnyZ_take (i := 3) (v := ?_) rfl (by kernel_rfl) (by kernel_rfl) (by kernel_rfl) (by kernel_rfl) (fun _ _ _ h => h) (Or.inl ⟨by first | kernel_rfl | rfl, ?_⟩) (by assumption) ?_
  rotate_left
  · intro w hSw; (try dsimp only at hSw); go_simp; (try with_reducible rfl)
  (try simp only [Act.put, List.getElem_toArray, List.getElem_cons_succ, List.getElem_cons_zero, List.setIfInBounds_toArray, List.set_cons_zero, List.set_cons_succ])
  refine wpAnyZ_take (i := 4) (v := ?_) rfl (by kernel_rfl) (by kernel_rfl) (by kernel_rfl) (by kernel_rfl) (fun _ _ _ h => h) (Or.inl ⟨by first | kernel_rfl | rfl, ?_⟩) (by assumption) ?_
  rotate_left
  · intro w hSw; (try dsimp only at hSw); go_simp; (try with_reducible rfl)
  (try simp only [Act.put, List.getElem_toArray, List.getElem_cons_succ, List.getElem_cons_zero, List.setIfInBounds_toArray, List.set_cons_zero, List.set_cons_succ])
  refine wpAnyZ_take (i := 5) (v := ?_) rfl (by kernel_rfl) (by kernel_rfl) (by kernel_rfl) (by kernel_rfl) (fun _ _ _ h => h) (Or.inl ⟨by first | kernel_rfl | rfl, ?_⟩) (by assumption) ?_
  rotate_left
  · intro w hSw; (try dsimp only at hSw); go_simp; (try with_reducible rfl)
  (try simp only [Act.put, List.getElem_toArray, List.getElem_cons_succ, List.getElem_cons_zero, List.setIfInBounds_toArray, List.set_cons_zero, List.set_cons_succ])
  refine wpAnyZ_take (i := 6) (v := ?_) rfl (by kernel_rfl) (by kernel_rfl) (by kernel_rfl) (by kernel_rfl) (fun _ _ _ h => h) (Or.inl ⟨by first | kernel_rfl | rfl, ?_⟩) (by assumption) ?_
  rotate_left
  · intro w hSw; (try dsimp only at hSw); go_simp; (try with_reducible rfl)
  (try simp only [Act.put, List.getElem_toArray, List.getElem_cons_succ, List.getElem_cons_zero, List.setIfInBounds_toArray, List.set_cons_zero, List.set_cons_succ])
  refine wpAnyZ_take (i := 7) (v := ?_) rfl (by kernel_rfl) (by kernel_rfl) (by kernel_rfl) (by kernel_rfl) (fun _ _ _ h => h) (Or.inl ⟨by first | kernel_rfl | rfl, ?_⟩) (by assumption) ?_
  rotate_left
  · intro w hSw; (try dsimp only at hSw); go_simp; (try with_reducible rfl)
  (try simp only [Act.put, List.getElem_toArray, List.getElem_cons_succ, List.getElem_cons_zero, List.setIfInBounds_toArray, List.set_cons_zero, List.set_cons_succ])
  refine wpAnyZ_take (i := 8) (v := ?_) rfl (by kernel_rfl) (by kernel_rfl) (by kernel_rfl) (by kernel_rfl) (fun _ _ _ h => h) (Or.inl ⟨by first | kernel_rfl | rfl, ?_⟩) (by assumption) ?_
  rotate_left
  · intro w hSw; (try dsimp only at hSw); go_simp; (try with_reducible rfl)
  (try simp only [Act.put, List.getElem_toArray, List.getElem_cons_succ, List.getElem_cons_zero, List.setIfInBounds_toArray, List.set_cons_zero, List.set_cons_succ])
  refine wpAnyZ_ready (i := 9) (by kernel_rfl) rfl (fun K hK => ?_)
  go_simp
  refine (Held_st (HD6.out _ (Below.refl _ w6).drew).1.box HSZ.out (HD6.out _ (Below.refl _ w6).drew).2 (by omega)).mono ?_
  rintro e w7 ⟨A7, c7, rfl, HO7, HB7⟩
  have HB7X : Hid (Below w6.heap.size w6 w7) := Lib.hid ((Below.refl _ w6).drew.trans HB7.out)
  refine hK.out _ _ ((HF6.out _ (HB6W.out.trans (HB7X.out.mono HB6W.out.size)))) (fun hHeld => ?_)
  clear hK K
  (try simp only [Act.put, List.getElem_toArray, List.getElem_cons_succ, List.getElem_cons_zero, List.setIfInBounds_toArray, List.set_cons_zero, List.set_cons_succ])
  refine wpAnyZ_take (i := 10) (v := ?_) rfl (by kernel_rfl) (by kernel_rfl) (by kernel_rfl) (by kernel_rfl) (fun _ _ _ h => h) (Or.inl ⟨by first | kernel_rfl | rfl, ?_⟩) (by assumption) ?_
  rotate_left
  · intro w hSw; (try dsimp only at hSw); go_simp; (try with_reducible rfl)
  (try simp only [Act.put, List.getElem_toArray, List.getElem_cons_succ, List.getElem_cons_zero, List.setIfInBounds_toArray, List.set_cons_zero, List.set_cons_succ])
  refine wpAnyZ_take (i := 11) (v := ?_) rfl (by kernel_rfl) (by kernel_rfl) (by kernel_rfl) (by kernel_rfl) (fun _ _ _ h => h) (Or.inl ⟨by first | kernel_rfl | rfl, ?_⟩) (by assumption) ?_
  rotate_left
  · intro w hSw; (try dsimp only at hSw); go_simp; (try with_reducible rfl)
  (try simp only [Act.put, List.getElem_toArray, List.getElem_cons_succ, List.getElem_cons_zero, List.setIfInBounds_toArray, List.set_cons_zero, List.set_cons_succ])
  refine wpAnyZ_last (i := 12) rfl (by kernel_rfl) (by kernel_rfl) rfl (fun K hK => ?_)
  go_simp
  refine hK.out _ _ ?_
  clear hK K hHeld
  obtain ⟨d, hdd⟩ : ∃ d : Int, (s.1.held.length : Int) + (ob.length : Int) - (s2.1.held.length : Int) = d := ⟨_, rfl⟩
  have hwp : IntKind.i64.wrap (IntKind.i64.wrap ((s.1.held.length : Int) + (ob.length : Int)) - (s2.1.held.length : Int)) = d := by
    simp [IntKind.wrap, IntKind.signed, IntKind.bits]; omega
  obtain ⟨p, hp⟩ : ∃ p : Int, (mo : Int) * d = p := ⟨_, rfl⟩
  have hd1 : -4 ≤ d := by omega
  have hd2 : d ≤ 604 := by omega
  have hp0 : (o2.length : Int) ≤ p := by
    have h := HBD.out.1
    rw [← hp, ← hdd]
    have h1 : ((o2.length + mo * s2.1.held.length : Nat) : Int) ≤ ((mo * (s.1.held.length + ob.length) : Nat) : Int) := Int.ofNat_le.2 h
    rw [Int.natCast_add, Int.natCast_mul, Int.natCast_mul, Int.natCast_add] at h1
    rw [Int.mul_sub]
    omega
  have hp1 : p ≤ 64 * 604 := by
    rw [← hp]
    rcases Int.le_total 0 d with h | h
    · exact Int.mul_le_mul (by omega) hd2 h (by omega)
    · have : (mo : Int) * d ≤ 0 := Int.mul_nonpos_of_nonneg_of_nonpos (by omega) h
      omega
  have hg4 : decide ((4 : Int) < (s2.1.held.length : Int)) = false := by simp; omega
  have hgp : decide (p < (o2.length : Int)) = false := by simp; omega
  rw [hwp]
  clear hdd hwp
  by_cases h7 : e2 = 7
  · have hz : s2.1.held = [] := HBD.out.2 h7
    have hg0 : ¬ (0 : Int) < (s2.1.held.length : Int) := by rw [hz]; simp
    have hg0' : decide ((0 : Int) < (s2.1.held.length : Int)) = false := decide_eq_false hg0
    have hn0 : s2.1.held.length = 0 := by rw [hz]; rfl
    subst h7
    clear hz
    go_wp2_with fail
    refine (Held_st (HD6.out _ HB7X.out).1.box HSZ.out (HD6.out _ HB7X.out).2 (by omega)).mono ?_
    rintro e w8 ⟨A8, c8, rfl, HO8, HB8⟩
    have HB8X : Hid (Below w6.heap.size w6 w8) := Lib.hid (HB7X.out.trans (HB8.out.mono HB7X.out.size))
    go_wp2_with fail
    refine (Held_st (HD6.out _ HB8X.out).1.box HSZ.out (HD6.out _ HB8X.out).2 (by omega)).mono ?_
    rintro e w9 ⟨A9, c9, rfl, HO9, HB9⟩
    have HB9X : Hid (Below w6.heap.size w6 w9) := Lib.hid (HB8X.out.trans (HB9.out.mono HB8X.out.size))
    go_wp2_with fail
    go_roundw
    case rel => exact ⟨k + 1, s2, ha6, hc6, by omega, by go_num, Lib.hid (HD6.out _ HB9X.out).1, Lib.hid (HB6W.out.trans (HB9X.out.mono HB6W.out.size))⟩
    case measure => simp [intOf]; omega
  · have he7 : (e2 == 7) = false := by rw [beq_eq_false_iff_ne]; exact h7
    clear h7
    go_wp2_with fail
    refine (Held_st (HD6.out _ HB7X.out).1.box HSZ.out (HD6.out _ HB7X.out).2 (by omega)).mono ?_
    rintro e w8 ⟨A8, c8, rfl, HO8, HB8⟩
    have HB8X : Hid (Below w6.heap.size w6 w8) := Lib.hid (HB7X.out.trans (HB8.out.mono HB7X.out.size))
    go_wp2_with fail
    go_roundw
    case rel => exact ⟨k + 1, s2, ha6, hc6, by omega, by go_num, Lib.hid (HD6.out _ HB8X.out).1, Lib.hid (HB6W.out.trans (HB8X.out.mono HB6W.out.size))⟩
    case measure => simp [intOf]; omega
end Go.Proofs.YtlmkokeapbleoaaGreat
