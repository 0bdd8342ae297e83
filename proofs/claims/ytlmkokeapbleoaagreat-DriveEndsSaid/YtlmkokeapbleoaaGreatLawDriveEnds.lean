/- umlautlaw19.DriveEnds: the call returns true. Condition: the table and the operations are known. -/
import Derived.Test.YtlmkokeapbleoaaGreatM20
import Derived.Test.YtlmkokeapbleoaaGreatM10
namespace Go.Proofs.YtlmkokeapbleoaaGreat
open Go.RowKit Go.Shelf
set_option linter.unusedVariables false
set_option linter.unusedSimpArgs false
/-- an error stays -/
theorem wrS_after {T : TabL} {s : DrvS} {b : List Int} (h : (wrS T s b).2.2 ≠ 0) : errI (wrS T s b).1 = (wrS T s b).2.2 := by
  unfold wrS at h ⊢
  split at h
  · rename_i h0; rw [if_pos h0]
  · rename_i h0
    rw [if_neg h0]
    simp only at h ⊢
    rcases hr : (Drv.go (drvM T) s.1 b).1.rej with _ | _
    · rw [hr] at h; simp at h
    · unfold errI; simp [hr]
theorem clS_after {T : TabL} {s : DrvS} : ((clS T s).2.2 ≠ 0 → errI (clS T s).1 = (clS T s).2.2) ∧ ((clS T s).2.2 = 0 → errI (clS T s).1 = 8) := by
  unfold clS
  split
  · rename_i h0
    exact ⟨fun _ => rfl, fun h => absurd h h0⟩
  · rename_i h0
    split
    · exact ⟨fun _ => rfl, fun h => (by simp at h)⟩
    · refine ⟨fun h => absurd rfl h, fun _ => ?_⟩
      have h1 : errI s = 0 := Classical.not_not.1 h0
      unfold errI at h1 ⊢
      rcases hr : s.1.rej with _ | _
      · simp [hr]
      · rw [hr] at h1; simp at h1
theorem wrS_stop {T : TabL} {s : DrvS} {b : List Int} (h : errI s ≠ 0) : wrS T s b = (s, [], errI s) := by unfold wrS; rw [if_pos h]
theorem clS_stop {T : TabL} {s : DrvS} (h : errI s ≠ 0) : clS T s = (s, [], errI s) := by unfold clS; rw [if_pos h]
set_option maxRecDepth 100000 in
set_option maxHeartbeats 64000000 in
theorem DriveEnds_walk (cs : Array Value) (T : TabI) (A : Option Addr) (c : Nat) (l : List OpI) (A' : Option Addr) (c' : Nat) (m : List OpI) (w : World) (hC : TabC cs T) (hT : TabW T w) (hL : OpsAt A l w) (hM : OpsAt A' m w) :
    Calls Tryz.prog 13 #[.agg cs, .slice A l.length c, .slice A' m.length c'] w fun e w' => e = .returned (.bool true) ∧ Below w.heap.size w w' := by
  obtain ⟨wa, hwa⟩ : ∃ z, w.alloc (.cells cs 49) = z := ⟨_, rfl⟩
  have HK1 : Hid (St w wa (fun W => TabBox w.heap.size cs W ∧ TabW T W ∧ OpsAt A l W ∧ OpsAt A' m W)) := by rw [← hwa]; exact St.tbox (Lib.hid (St.start fun W hW => ⟨hT.below hW, hL.below hW, hM.below hW⟩)) cs
  have HC := Lib.hid hC
  have HI : Hid ((Tryz.prog.info? 49).map (·.size) = some cs.size) := Lib.hid (by rw [hC.size]; exact info_tabS)
  have hln := hL.ln
  have hmn := hM.ln
  have HLW : Hid (∀ V, Below w.heap.size w V → OpsAt A l V ∧ OpsAt A' m V) := Lib.hid fun V hV => ⟨hL.below hV, hM.below hV⟩
  clear hC hT hL hM
  go_enter Tryz.func13, Tryz.ntmps13
  by_cases hg : GreatO T.L l
  · have HG := Lib.hid (pB_true hg)
    clear hg
    go_wp2_with (first
      | (refine wpList_load_row rfl 49 _ rfl w.heap.size rfl _ cs _ _ HK1.out.now.1 Tryz.underlying49 rfl HI.out ?_)
      | (go_at_call 37; refine (great19_st HK1 cs T HC.out (fun _ h => h.2.1) (fun _ h => h.2.2.1) c true HG).mono ?_; rintro e w2 ⟨rfl, HK2⟩)
      | (go_at_call 38; refine (awake19_st HK2).mono ?_; rintro e w3 ⟨rfl, HK3⟩))
    go_ret
    exact ⟨rfl, HK3.out.2⟩
  obtain ⟨hs1, hs2, hs3⟩ := ops_small hg
  have HG := Lib.hid (pB_false hg)
  go_wp2_with (first
    | (refine wpList_load_row rfl 49 _ rfl w.heap.size rfl _ cs _ _ HK1.out.now.1 Tryz.underlying49 rfl HI.out ?_)
    | (go_at_call 37; refine (great19_st HK1 cs T HC.out (fun _ h => h.2.1) (fun _ h => h.2.2.1) c false HG).mono ?_; rintro e w2 ⟨rfl, HK2⟩))
  refine wp_load_row 49 _ rfl w.heap.size rfl _ cs _ _ HK2.out.now.1 Tryz.underlying49 rfl HI.out ?_
  by_cases hg2 : GreatO T.L m
  · have HG2 := Lib.hid (pB_true hg2)
    clear hg hg2
    go_wp2_with (first
      | (go_at_call 37; refine (great19_st HK2 cs T HC.out (fun _ h => h.2.1) (fun _ h => h.2.2.2) c' true HG2).mono ?_; rintro e w3 ⟨rfl, HK3⟩)
      | (go_at_call 38; refine (awake19_st HK3).mono ?_; rintro e w4 ⟨rfl, HK4⟩))
    go_ret
    exact ⟨rfl, HK4.out.2⟩
  obtain ⟨-, ms2, ms3⟩ := ops_small hg2
  have HG2 := Lib.hid (pB_false hg2)
  have HS := Lib.hid hs1
  have HS3 := Lib.hid hs3
  have HM3 := Lib.hid ms3
  clear hg hg2 hs1 hs3 ms3
  go_wp2_with (go_at_call 37; refine (great19_st HK2 cs T HC.out (fun _ h => h.2.1) (fun _ h => h.2.2.2) c' false HG2).mono ?_; rintro e w3 ⟨rfl, HK3⟩)
  refine wp_load_row 49 _ rfl w.heap.size rfl _ cs _ _ HK3.out.now.1 Tryz.underlying49 rfl HI.out ?_
  by_cases hok : TabOk T.L
  case neg =>
    have HV := Lib.hid (pB_false hok)
    clear hok
    go_wp2_with fail
    refine (new_st w3 cs T HC.out HK3.out.now.2.1 HS.out false HV).mono ?_
    rintro e w4 (⟨-, rfl, HB4⟩ | ⟨h, -⟩)
    · go_wp2_with (go_at_call 38; refine (awake19_st (Lib.hid (HK3.out.step HB4.out))).mono ?_; rintro e w5 ⟨rfl, HK5⟩)
      go_ret
      exact ⟨rfl, HK5.out.2⟩
    · cases h
  have HV := Lib.hid (pB_true hok)
  have HOK := Lib.hid hok
  clear hok
  go_wp2_with fail
  refine (new_st w3 cs T HC.out HK3.out.now.2.1 HS.out true HV).mono ?_
  rintro e w4 (⟨h, -⟩ | ⟨-, db, cs', T', rfl, HT', HD, HDP, HB4, hdb⟩)
  · cases h
  have HTL : Hid (T'.L = T.L) := Lib.hid HT'.out.2
  have HD4 : Hid (DrvK (fun k => k = db) db cs' T' s00 none 0 w4) := Lib.hid (drvNew HT'.out.1 (by rw [HTL.out]; exact HOK.out) HD.out HDP.out)
  have HDB : Hid (w.heap.size ≤ db) := Lib.hid (by have := HK3.out.2.size; omega)
  have HB4W : Hid (Below w.heap.size w w4) := Lib.hid (HK3.out.2.trans (HB4.out.mono HK3.out.2.size))
  have HSZ : Hid (cs'.size = 259) := Lib.hid HD4.out.tc.size
  have HBEL : Hid (∀ a b : World, Below w.heap.size w a → BelD (fun k => k = db) a b → Below w.heap.size w b) := Lib.hid fun a b ha hb => ha.trans (hb.below (fun k hk => by have e : k = db := hk; have := HDB.out; omega) ha.size)
  clear hdb HD HDP HT' HK1 HK2 HK3 HG HG2 HS HV
  go_wp2_with fail
  go_loopw [9, 10] (fun ev iv wr => ∃ (k : Nat) (s : DrvS) (ha : Option Addr) (hc : Nat) (e : Int), k ≤ l.length ∧ iv = .int .i64 k ∧ ev = .int .i64 e ∧ Hid (e ≠ 0 → errI s = e) ∧ Hid (DrvK (fun k => k = db) db cs' T' s ha hc wr) ∧ Hid (Below w.heap.size w wr)) (fun _ iv _ => l.length - (intOf iv).toNat)
  case atStart => exact ⟨0, s00, none, 0, 0, Nat.zero_le _, rfl, rfl, Lib.hid fun h => absurd rfl h, HD4, HB4W⟩
  case round =>
  clear HD4 HB4W
  obtain ⟨k, s, ha, hc, er, hk, rfl, rfl, HER, HDr, HBW⟩ := hrel
  by_cases hgo : k < l.length ∧ er = 0
  · obtain ⟨hlt, rfl⟩ := hgo
    obtain ⟨b, off, o, rfl, hx, hw, p0, p1⟩ := (HLW.out wr HBW.out).1.at_ hlt
    have hlti : (k : Int) < (l.length : Int) := by omega
    have HX := Lib.hid hx
    have hob : o.b.length ≤ 600 := HS3.out o (List.mem_of_getElem? hx)
    clear hx hw
    rcases hcl : o.cl with _ | _
    · rw [hcl] at p1
      have HOB : Hid (∀ V, BelD (fun k => k = db) wr V → BytesAt o.a o.b V) := Lib.hid fun V hV => (HLW.out V (HBEL.out _ _ HBW.out hV)).1.it _ (List.mem_of_getElem? HX.out)
      obtain ⟨⟨s2, o2, e2⟩, hwr⟩ : ∃ z, wrS T'.L s o.b = z := ⟨_, rfl⟩
      have HWR := Lib.hid hwr
      have HAF : Hid (e2 ≠ 0 → errI s2 = e2) := Lib.hid fun h => by have h1 := wrS_after (T := T'.L) (s := s) (b := o.b); rw [hwr] at h1; exact h1 h
      clear hwr
      go_wp2_with fail
      refine (Write_st HDr o.c HOB (by omega)).mono ?_
      rintro e w6 ⟨A6, c6, ha6, hc6, rfl, HK6, HB6, HY6, HR6, HL6⟩
      rw [HWR.out] at HK6 HY6 HR6 HL6
      rw [HWR.out]
      simp only at HK6 HY6 HR6 HL6 ⊢
      go_wp2_with fail
      go_roundw
      case rel => exact ⟨k + 1, s2, ha6, hc6, e2, by omega, by go_num, rfl, HAF, HK6, Lib.hid (HBEL.out _ _ HBW.out HB6.out)⟩
      case measure => simp [intOf]; omega
    · rw [hcl] at p1
      obtain ⟨⟨s2, o2, e2⟩, hwr⟩ : ∃ z, clS T'.L s = z := ⟨_, rfl⟩
      have HWR := Lib.hid hwr
      have HAF : Hid ((e2 ≠ 0 → errI s2 = e2) ∧ (e2 = 0 → errI s2 = 8)) := Lib.hid (by have h1 := clS_after (T := T'.L) (s := s); rw [hwr] at h1; exact h1)
      clear hwr
      go_wp2_with fail
      refine (Close_st HDr).mono ?_
      rintro e w6 ⟨A6, c6, ha6, hc6, rfl, HK6, HB6, HY6, HR6, HL6⟩
      rw [HWR.out] at HK6 HY6 HR6 HL6
      rw [HWR.out]
      simp only at HK6 HY6 HR6 HL6 ⊢
      by_cases hz : e2 = 0
      · subst hz
        go_wp2_with fail
        go_roundw
        case rel => exact ⟨k + 1, s2, ha6, hc6, 8, by omega, by go_num, rfl, Lib.hid fun _ => HAF.out.2 rfl, HK6, Lib.hid (HBEL.out _ _ HBW.out HB6.out)⟩
        case measure => simp [intOf]; omega
      · have hzb : (e2 == 0) = false := by rw [beq_eq_false_iff_ne]; exact hz
        go_wp2_with fail
        go_roundw
        case rel => exact ⟨k + 1, s2, ha6, hc6, e2, by omega, by go_num, rfl, Lib.hid HAF.out.1, HK6, Lib.hid (HBEL.out _ _ HBW.out HB6.out)⟩
        case measure => simp [intOf]; omega
  by_cases hX : er = 0
  · subst hX
    obtain rfl : k = l.length := by omega
    have hd : decide (l.length < l.length) = false := by simp
    go_wp2_with fail
    go_loopw [11] (fun iv wr => ∃ (k : Nat) (ha : Option Addr) (hc : Nat), k ≤ m.length ∧ iv = .int .i64 k ∧ Hid (DrvK (fun k => k = db) db cs' T' s ha hc wr) ∧ Hid (Below w.heap.size w wr)) (fun iv _ => m.length - (intOf iv).toNat)
    case atStart => exact ⟨0, ha, hc, Nat.zero_le _, rfl, HDr, HBW⟩
    case round =>
    clear HDr HBW
    obtain ⟨k2, ha2, hc2, hk2, rfl, HDr, HBW⟩ := hrel
    by_cases hlt2 : k2 < m.length
    case neg =>
      obtain rfl : k2 = m.length := by omega
      have hd2 : decide (m.length < m.length) = false := by simp
      go_wp2_with (go_at_call 38; refine (awake19_st (w0 := w) (F := fun _ => True) (Lib.hid ⟨fun _ _ => trivial, HBW.out⟩)).mono ?_; rintro e w5 ⟨rfl, HK5⟩)
      go_ret
      exact ⟨rfl, HK5.out.2⟩
    have hlti2 : (k2 : Int) < (m.length : Int) := by omega
    go_wp2_with (go_at_call 38; refine (awake19_st (w0 := w) (F := fun _ => True) (Lib.hid ⟨fun _ _ => trivial, HBW.out⟩)).mono ?_; rintro e w5 ⟨rfl, HK5⟩)
    go_ret
    exact ⟨rfl, HK5.out.2⟩
  have hzb : (er == 0) = false := by rw [beq_eq_false_iff_ne]; exact hX
  have hnz : (er != 0) = true := by rw [bne_iff_ne]; exact hX
  by_cases hlt : k < l.length
  · have hlti : (k : Int) < (l.length : Int) := by omega
    go_wp2_with fail
    clear hlti
    go_loopw [11] (fun iv wr => ∃ (k : Nat) (ha : Option Addr) (hc : Nat), k ≤ m.length ∧ iv = .int .i64 k ∧ Hid (DrvK (fun k => k = db) db cs' T' s ha hc wr) ∧ Hid (Below w.heap.size w wr)) (fun iv _ => m.length - (intOf iv).toNat)
    case atStart => exact ⟨0, ha, hc, Nat.zero_le _, rfl, HDr, HBW⟩
    case round =>
    clear HDr HBW
    obtain ⟨k2, ha2, hc2, hk2, rfl, HDr, HBW⟩ := hrel
    by_cases hlt2 : k2 < m.length
    case neg =>
      obtain rfl : k2 = m.length := by omega
      have hd2 : decide (m.length < m.length) = false := by simp
      go_wp2_with (go_at_call 38; refine (awake19_st (w0 := w) (F := fun _ => True) (Lib.hid ⟨fun _ _ => trivial, HBW.out⟩)).mono ?_; rintro e w5 ⟨rfl, HK5⟩)
      go_ret
      exact ⟨rfl, HK5.out.2⟩
    have hne : errI s ≠ 0 := by rw [HER.out hX]; exact hX
    have HWR : Hid (∀ b, wrS T'.L s b = (s, [], er)) := Lib.hid fun b => by rw [wrS_stop hne, HER.out hX]
    have HCL : Hid (clS T'.L s = (s, [], er)) := Lib.hid (by rw [clS_stop hne, HER.out hX])
    obtain ⟨b2, off2, o, rfl, hx, hw, p0, p1⟩ := (HLW.out wr HBW.out).2.at_ hlt2
    have hlti2 : (k2 : Int) < (m.length : Int) := by omega
    have hbb : (er != er) = false := by simp
    have HX := Lib.hid hx
    have hob : o.b.length ≤ 600 := HM3.out o (List.mem_of_getElem? hx)
    have HOB : Hid (∀ V, BelD (fun k => k = db) wr V → BytesAt o.a o.b V) := Lib.hid fun V hV => (HLW.out V (HBEL.out _ _ HBW.out hV)).2.it _ (List.mem_of_getElem? HX.out)
    clear hx hw hne
    go_wp2_with fail
    refine (Write_st HDr o.c HOB (by omega)).mono ?_
    rintro e w6 ⟨A6, c6, ha6, hc6, rfl, HK6, HB6, HY6, HR6, HL6⟩
    rw [HWR.out] at HK6
    rw [HWR.out]
    simp only at HK6 ⊢
    go_wp2_with fail
    refine (Close_st HK6).mono ?_
    rintro e w7 ⟨A7, c7, ha7, hc7, rfl, HK7, HB7, HY7, HR7, HL7⟩
    rw [HCL.out] at HK7
    rw [HCL.out]
    simp only at HK7 ⊢
    go_wp2_with fail
    go_roundw
    case rel => exact ⟨k2 + 1, ha7, hc7, by omega, by go_num, HK7, Lib.hid (HBEL.out _ _ (HBEL.out _ _ HBW.out HB6.out) HB7.out)⟩
    case measure => simp [intOf]; omega
  · obtain rfl : k = l.length := by omega
    have hd : decide (l.length < l.length) = false := by simp
    go_wp2_with fail
    go_loopw [11] (fun iv wr => ∃ (k : Nat) (ha : Option Addr) (hc : Nat), k ≤ m.length ∧ iv = .int .i64 k ∧ Hid (DrvK (fun k => k = db) db cs' T' s ha hc wr) ∧ Hid (Below w.heap.size w wr)) (fun iv _ => m.length - (intOf iv).toNat)
    case atStart => exact ⟨0, ha, hc, Nat.zero_le _, rfl, HDr, HBW⟩
    case round =>
    clear HDr HBW
    obtain ⟨k2, ha2, hc2, hk2, rfl, HDr, HBW⟩ := hrel
    by_cases hlt2 : k2 < m.length
    case neg =>
      obtain rfl : k2 = m.length := by omega
      have hd2 : decide (m.length < m.length) = false := by simp
      go_wp2_with (go_at_call 38; refine (awake19_st (w0 := w) (F := fun _ => True) (Lib.hid ⟨fun _ _ => trivial, HBW.out⟩)).mono ?_; rintro e w5 ⟨rfl, HK5⟩)
      go_ret
      exact ⟨rfl, HK5.out.2⟩
    have hne : errI s ≠ 0 := by rw [HER.out hX]; exact hX
    have HWR : Hid (∀ b, wrS T'.L s b = (s, [], er)) := Lib.hid fun b => by rw [wrS_stop hne, HER.out hX]
    have HCL : Hid (clS T'.L s = (s, [], er)) := Lib.hid (by rw [clS_stop hne, HER.out hX])
    obtain ⟨b2, off2, o, rfl, hx, hw, p0, p1⟩ := (HLW.out wr HBW.out).2.at_ hlt2
    have hlti2 : (k2 : Int) < (m.length : Int) := by omega
    have hbb : (er != er) = false := by simp
    have HX := Lib.hid hx
    have hob : o.b.length ≤ 600 := HM3.out o (List.mem_of_getElem? hx)
    have HOB : Hid (∀ V, BelD (fun k => k = db) wr V → BytesAt o.a o.b V) := Lib.hid fun V hV => (HLW.out V (HBEL.out _ _ HBW.out hV)).2.it _ (List.mem_of_getElem? HX.out)
    clear hx hw hne
    go_wp2_with fail
    refine (Write_st HDr o.c HOB (by omega)).mono ?_
    rintro e w6 ⟨A6, c6, ha6, hc6, rfl, HK6, HB6, HY6, HR6, HL6⟩
    rw [HWR.out] at HK6
    rw [HWR.out]
    simp only at HK6 ⊢
    go_wp2_with fail
    refine (Close_st HK6).mono ?_
    rintro e w7 ⟨A7, c7, ha7, hc7, rfl, HK7, HB7, HY7, HR7, HL7⟩
    rw [HCL.out] at HK7
    rw [HCL.out]
    simp only at HK7 ⊢
    go_wp2_with fail
    go_roundw
    case rel => exact ⟨k2 + 1, ha7, hc7, by omega, by go_num, HK7, Lib.hid (HBEL.out _ _ (HBEL.out _ _ HBW.out HB6.out) HB7.out)⟩
    case measure => simp [intOf]; omega
end Go.Proofs.YtlmkokeapbleoaaGreat
