/- umlautlaw19.DriveCopies: the call returns true. Condition: the table and the operations are known. -/
import Derived.Test.YtlmkokeapbleoaaGreatM20
import Derived.Test.YtlmkokeapbleoaaGreatM10
import Derived.Test.YtlmkokeapbleoaaGreatM19
namespace Go.Proofs.YtlmkokeapbleoaaGreat
open Go.RowKit Go.Shelf
set_option linter.unusedVariables false
set_option linter.unusedSimpArgs false
/-- more is known -/
theorem wpAnyZ_more {P : Program} {md : Region.Mode} {ops : Array Oper} {Q : Exit → Act → World → Prop} {S S' : World → Prop} {z : Nat} (hS : ∀ w, S' w → S w) : ∀ (fuel : Nat) (listed : Array Bool) (a : Act) (w : World), wpAnyZ P md ops Q S' z fuel listed a w → wpAnyZ P md ops Q S z fuel listed a w
  | 0, _, _, _, h => h
  | fuel + 1, _, _, _, h => ⟨h.1, fun i hi => wpOp_mono (fun a' w' h' => ⟨h'.1.imp id (hS w'), wpAnyZ_more hS fuel _ a' w' h'.2⟩) (h.2 i hi)⟩

set_option maxRecDepth 100000 in
set_option maxHeartbeats 64000000 in
theorem DriveCopies_walk (cs : Array Value) (T : TabI) (A : Option Addr) (c : Nat) (l : List OpI) (A' : Option Addr) (c' : Nat) (m : List OpI) (A'' : Option Addr) (c'' : Nat) (o : List OpI) (w : World) (hC : TabC cs T) (hT : TabW T w) (hL : OpsAt A l w) (hM : OpsAt A' m w) (hO : OpsAt A'' o w) :
    Calls Tryz.prog 14 #[.agg cs, .slice A l.length c, .slice A' m.length c', .slice A'' o.length c''] w fun e w' => e = .returned (.bool true) ∧ Below w.heap.size w w' := by
  obtain ⟨wa, hwa⟩ : ∃ z, w.alloc (.cells cs 49) = z := ⟨_, rfl⟩
  have HK1 : Hid (St w wa (fun W => TabBox w.heap.size cs W ∧ TabW T W ∧ OpsAt A l W ∧ OpsAt A' m W ∧ OpsAt A'' o W)) := by rw [← hwa]; exact St.tbox (Lib.hid (St.start fun W hW => ⟨hT.below hW, hL.below hW, hM.below hW, hO.below hW⟩)) cs
  have HC := Lib.hid hC
  have HI : Hid ((Tryz.prog.info? 49).map (·.size) = some cs.size) := Lib.hid (by rw [hC.size]; exact info_tabS)
  have HLW : Hid (∀ V, Below w.heap.size w V → OpsAt A l V ∧ OpsAt A' m V ∧ OpsAt A'' o V) := Lib.hid fun V hV => ⟨hL.below hV, hM.below hV, hO.below hV⟩
  clear hC hT hL hM hO
  go_enter Tryz.func14, Tryz.ntmps14
  by_cases hg : GreatO T.L l
  · have HG := Lib.hid (pB_true hg)
    clear hg
    go_wp2_with (first
      | (refine wpList_load_row rfl 49 _ rfl w.heap.size rfl _ cs _ _ HK1.out.now.1 Tryz.underlying49 rfl HI.out ?_)
      | (go_at_call 37; refine (great19_st HK1 cs T HC.out (fun _ h => h.2.1) (fun _ h => h.2.2.1) c true HG).mono ?_; rintro e w2 ⟨rfl, HK2⟩)
      | (go_at_call 38; refine (awake19_st HK2).mono ?_; rintro e w3 ⟨rfl, HK3⟩))
    go_ret
    exact ⟨rfl, HK3.out.2⟩
  obtain ⟨hs1, hs2, hs3⟩ := ops_small hg
  have HG := Lib.hid (pB_false hg)
  have HS := Lib.hid hs1
  have HS2 := Lib.hid hs2
  have HS3 := Lib.hid hs3
  clear hg hs1 hs2 hs3
  go_wp2_with (first
    | (refine wpList_load_row rfl 49 _ rfl w.heap.size rfl _ cs _ _ HK1.out.now.1 Tryz.underlying49 rfl HI.out ?_)
    | (go_at_call 37; refine (great19_st HK1 cs T HC.out (fun _ h => h.2.1) (fun _ h => h.2.2.1) c false HG).mono ?_; rintro e w2 ⟨rfl, HK2⟩))
  refine wp_load_row 49 _ rfl w.heap.size rfl _ cs _ _ HK2.out.now.1 Tryz.underlying49 rfl HI.out ?_
  by_cases hg2 : GreatO T.L m
  · have HG2 := Lib.hid (pB_true hg2)
    clear hg2
    go_wp2_with (first
      | (go_at_call 37; refine (great19_st HK2 cs T HC.out (fun _ h => h.2.1) (fun _ h => h.2.2.2.1) c' true HG2).mono ?_; rintro e w3 ⟨rfl, HK3⟩)
      | (go_at_call 38; refine (awake19_st HK3).mono ?_; rintro e w4 ⟨rfl, HK4⟩))
    go_ret
    exact ⟨rfl, HK4.out.2⟩
  obtain ⟨-, ms2, ms3⟩ := ops_small hg2
  have HG2 := Lib.hid (pB_false hg2)
  have HM2 := Lib.hid ms2
  have HM3 := Lib.hid ms3
  clear hg2 ms2 ms3
  go_wp2_with (go_at_call 37; refine (great19_st HK2 cs T HC.out (fun _ h => h.2.1) (fun _ h => h.2.2.2.1) c' false HG2).mono ?_; rintro e w3 ⟨rfl, HK3⟩)
  refine wp_load_row 49 _ rfl w.heap.size rfl _ cs _ _ HK3.out.now.1 Tryz.underlying49 rfl HI.out ?_
  by_cases hg3 : GreatO T.L o
  · have HG3 := Lib.hid (pB_true hg3)
    clear hg3
    go_wp2_with (first
      | (go_at_call 37; refine (great19_st HK3 cs T HC.out (fun _ h => h.2.1) (fun _ h => h.2.2.2.2) c'' true HG3).mono ?_; rintro e w4 ⟨rfl, HK4⟩)
      | (go_at_call 38; refine (awake19_st HK4).mono ?_; rintro e w5 ⟨rfl, HK5⟩))
    go_ret
    exact ⟨rfl, HK5.out.2⟩
  obtain ⟨-, os2, os3⟩ := ops_small hg3
  have HG3 := Lib.hid (pB_false hg3)
  have HO2 := Lib.hid os2
  have HO3 := Lib.hid os3
  clear hg3 os2 os3
  go_wp2_with (go_at_call 37; refine (great19_st HK3 cs T HC.out (fun _ h => h.2.1) (fun _ h => h.2.2.2.2) c'' false HG3).mono ?_; rintro e w4 ⟨rfl, HK4⟩)
  refine wp_load_row 49 _ rfl w.heap.size rfl _ cs _ _ HK4.out.now.1 Tryz.underlying49 rfl HI.out ?_
  by_cases hok : TabOk T.L
  case neg =>
    have HV := Lib.hid (pB_false hok)
    clear hok
    go_wp2_with fail
    refine (new_st w4 cs T HC.out HK4.out.now.2.1 HS.out false HV).mono ?_
    rintro e w5 (⟨-, rfl, HB5⟩ | ⟨h, -⟩)
    · have HK5 := Lib.hid (HK4.out.step HB5.out)
      go_wp2_with fail
      refine wp_load_row 49 _ rfl w.heap.size rfl _ cs _ _ HK5.out.now.1 Tryz.underlying49 rfl HI.out ?_
      go_wp2_with fail
      refine (new_st w5 cs T HC.out HK5.out.now.2.1 HS.out false HV).mono ?_
      rintro e w6 (⟨-, rfl, HB6⟩ | ⟨h, -⟩)
      · go_wp2_with (go_at_call 38; refine (awake19_st (Lib.hid (HK5.out.step HB6.out))).mono ?_; rintro e w7 ⟨rfl, HK7⟩)
        go_ret
        exact ⟨rfl, HK7.out.2⟩
      · cases h
    · cases h
  have HV := Lib.hid (pB_true hok)
  have HOK := Lib.hid hok
  clear hok
  go_wp2_with fail
  refine (new_st w4 cs T HC.out HK4.out.now.2.1 HS.out true HV).mono ?_
  rintro e w5 (⟨h, -⟩ | ⟨-, db, cs1, T1, rfl, HT1, HD1, HDP1, HB5, hdb⟩)
  · cases h
  have HK5 := Lib.hid (HK4.out.step HB5.out)
  go_wp2_with fail
  refine wp_load_row 49 _ rfl w.heap.size rfl _ cs _ _ HK5.out.now.1 Tryz.underlying49 rfl HI.out ?_
  go_wp2_with fail
  refine (new_st w5 cs T HC.out HK5.out.now.2.1 HS.out true HV).mono ?_
  rintro e w6 (⟨h, -⟩ | ⟨-, dc, cs2, T2, rfl, HT2, HD2, HDP2, HB6, hdc⟩)
  · cases h
  have HL1 : Hid (T1.L = T.L) := Lib.hid HT1.out.2
  have HL2 : Hid (T2.L = T.L) := Lib.hid HT2.out.2
  have HDB : Hid (w.heap.size ≤ db ∧ db < w5.heap.size ∧ w5.heap.size ≤ dc ∧ dc < w6.heap.size) := Lib.hid ⟨by have := HK4.out.2.size; omega, HD1.out.lt, hdc, HD2.out.lt⟩
  have HM : Hid (DrvK (fun k => k = db ∨ k = dc) db cs1 T1 s00 none 0 w6) := Lib.hid (DrvK.wide (drvNew HT1.out.1 (by rw [HL1.out]; exact HOK.out) HD1.out HDP1.out) HB6.out (fun k hk => .inl hk) (fun k hk => hk.imp id fun e => by have := HDB.out; omega) (fun k hk => by have := HDB.out; have := HB6.out.size; omega))
  have HN : Hid (DrvK (fun k => k = db ∨ k = dc) dc cs2 T2 s00 none 0 w6) := Lib.hid (drvNewD HT2.out.1 (by rw [HL2.out]; exact HOK.out) HD2.out HDP2.out (fun k hk => by have := HDB.out; omega) (.inr rfl) (fun k hk => by have := HDB.out; have := HB6.out.size; omega))
  have HBW6 : Hid (Below w.heap.size w w6) := Lib.hid (HK5.out.2.trans (HB6.out.mono HK5.out.2.size))
  have HBD : Hid (∀ a b : World, Below w.heap.size w a → BelD (fun k => k = db ∨ k = dc) a b → Below w.heap.size w b) := Lib.hid fun a b ha hb => ha.trans (hb.below (fun k hk => by have := HDB.out; omega) ha.size)
  obtain ⟨s1, hs1⟩ : ∃ z, (playS T.L s00 l).1 = z := ⟨_, rfl⟩
  have HPL : Hid ((playS T1.L s00 l).1 = s1 ∧ (playS T2.L s00 l).1 = s1) := Lib.hid (by rw [HL1.out, HL2.out]; exact ⟨hs1, hs1⟩)
  obtain ⟨⟨s2, q2⟩, hs2⟩ : ∃ z, playS T.L s1 m = z := ⟨_, rfl⟩
  have HPM : Hid (playS T1.L s1 m = (s2, q2) ∧ playS T2.L s1 m = (s2, q2)) := Lib.hid (by rw [HL1.out, HL2.out]; exact ⟨hs2, hs2⟩)
  obtain ⟨sx, hsx⟩ : ∃ z, strOfNums q2 = z := ⟨_, rfl⟩
  have HSX := Lib.hid hsx
  clear hdb hdc HD1 HD2 HDP1 HDP2 HT1 HT2 HK1 HK2 HK3 HK4 HK5 HG HG2 HG3 HS HV HC HI hs1 hs2 hsx hwa
  have hl60 := HS2.out
  have hm60 := HM2.out
  have ho60 := HO2.out
  go_wp2_with fail
  refine (plays_st HM c (Lib.hid fun V hV => (HLW.out V (HBD.out _ _ HBW6.out hV)).1) hl60 HS3).mono ?_
  rintro e w7 ⟨ha7, hc7, rfl, HM7, HB7⟩
  rw [HPL.out.1] at HM7
  have HBW7 : Hid (Below w.heap.size w w7) := Lib.hid (HBD.out _ _ HBW6.out (HB7.out.mono fun k hk => .inl hk))
  have HN7 : Hid (DrvK (fun k => k = db ∨ k = dc) dc cs2 T2 s00 none 0 w7) := Lib.hid (HN.out.step (HB7.out.mono fun k hk => .inl hk) (HB7.out.block _ HN.out.box.lt (fun e => by have e : dc = db := e; have := HDB.out; omega)))
  go_wp2_with fail
  refine (plays_st HN7 c (Lib.hid fun V hV => (HLW.out V (HBD.out _ _ HBW7.out hV)).1) hl60 HS3).mono ?_
  rintro e w8 ⟨ha8, hc8, rfl, HN8, HB8⟩
  rw [HPL.out.2] at HN8
  have HBW8 : Hid (Below w.heap.size w w8) := Lib.hid (HBD.out _ _ HBW7.out (HB8.out.mono fun k hk => .inr hk))
  have HM8 : Hid (DrvK (fun k => k = db ∨ k = dc) db cs1 T1 s1 ha7 hc7 w8) := Lib.hid (HM7.out.step (HB8.out.mono fun k hk => .inr hk) (HB8.out.block _ HM7.out.box.lt (fun e => by have e : db = dc := e; have := HDB.out; omega)))
  go_wp2_with fail
  refine (Copy_st HM8).mono ?_
  rintro e w9 ⟨dk, ha9, hc9, rfl, hdk, HM9, HK9, HB9⟩
  have HDK : Hid (w8.heap.size ≤ dk ∧ db < w8.heap.size ∧ dc < w8.heap.size ∧ w.heap.size ≤ w8.heap.size) := Lib.hid ⟨hdk, HM8.out.box.lt, HN8.out.box.lt, HBW8.out.size⟩
  have HN9 : Hid (DrvK (fun k => (k = db ∨ k = dc) ∨ k = dk) dc cs2 T2 s1 ha8 hc8 w9) := Lib.hid (HN8.out.wide HB9.out (fun k hk => .inl hk) (fun k hk => hk.imp id fun e => by have := HDK.out; omega) (fun k hk => HM9.out.lt k hk))
  have HBW9 : Hid (Below w.heap.size w w9) := Lib.hid (HBW8.out.trans (HB9.out.mono HBW8.out.size))
  have HBE : Hid (∀ a b : World, Below w.heap.size w a → BelD (fun k => (k = db ∨ k = dc) ∨ k = dk) a b → Below w.heap.size w b) := Lib.hid fun a b ha hb => ha.trans (hb.below (fun k hk => by have := HDB.out; have := HDK.out; omega) ha.size)
  clear hdk HM HN HM7 HN7 HM8 HN8 HB7 HB8 HB9 HBW6 HBW7 HBW8
  have hnn : ((some (⟨dk, 0, none⟩ : Addr)) == none) = false := rfl
  go_wp2_with fail
  refine (plays_st HK9 c'' (Lib.hid fun V hV => (HLW.out V (HBE.out _ _ HBW9.out hV)).2.2) ho60 HO3).mono ?_
  rintro e w10 ⟨ha10, hc10, rfl, HK10, HB10⟩
  have HBW10 : Hid (Below w.heap.size w w10) := Lib.hid (HBE.out _ _ HBW9.out (HB10.out.mono fun k hk => .inr hk))
  have HM10 : Hid (DrvK (fun k => (k = db ∨ k = dc) ∨ k = dk) db cs1 T1 s1 ha7 hc7 w10) := Lib.hid (HM9.out.step (HB10.out.mono fun k hk => .inr hk) (HB10.out.block _ HM9.out.box.lt (fun e => by have e : db = dk := e; have := HDK.out; omega)))
  have HN10 : Hid (DrvK (fun k => (k = db ∨ k = dc) ∨ k = dk) dc cs2 T2 s1 ha8 hc8 w10) := Lib.hid (HN9.out.step (HB10.out.mono fun k hk => .inr hk) (HB10.out.block _ HN9.out.box.lt (fun e => by have e : dc = dk := e; have := HDK.out; omega)))
  go_wp2_with fail
  refine (plays_st HM10 c' (Lib.hid fun V hV => (HLW.out V (HBE.out _ _ HBW10.out hV)).2.1) hm60 HM3).mono ?_
  rintro e w11 ⟨ha11, hc11, rfl, HM11, HB11⟩
  rw [HPM.out.1] at HM11
  rw [HPM.out.1]
  simp only at HM11 ⊢
  rw [HSX.out]
  have HBW11 : Hid (Below w.heap.size w w11) := Lib.hid (HBE.out _ _ HBW10.out (HB11.out.mono fun k hk => .inl (.inl hk)))
  have HN11 : Hid (DrvK (fun k => (k = db ∨ k = dc) ∨ k = dk) dc cs2 T2 s1 ha8 hc8 w11) := Lib.hid (HN10.out.step (HB11.out.mono fun k hk => .inl (.inl hk)) (HB11.out.block _ HN10.out.box.lt (fun e => by have e : dc = db := e; have := HDB.out; omega)))
  go_wp2_with fail
  refine (plays_st HN11 c' (Lib.hid fun V hV => (HLW.out V (HBE.out _ _ HBW11.out hV)).2.1) hm60 HM3).mono ?_
  rintro e w12 ⟨ha12, hc12, rfl, HN12, HB12⟩
  rw [HPM.out.2] at HN12
  rw [HPM.out.2]
  simp only at HN12 ⊢
  rw [HSX.out]
  have HBW12 : Hid (Below w.heap.size w w12) := Lib.hid (HBE.out _ _ HBW11.out (HB12.out.mono fun k hk => .inl (.inr hk)))
  have HM12 : Hid (DrvK (fun k => (k = db ∨ k = dc) ∨ k = dk) db cs1 T1 s2 ha11 hc11 w12) := Lib.hid (HM11.out.step (HB12.out.mono fun k hk => .inl (.inr hk)) (HB12.out.block _ HM11.out.box.lt (fun e => by have e : db = dc := e; have := HDB.out; omega)))
  clear HM9 HN9 HK9 HM10 HN10 HK10 HM11 HN11 HB10 HB11 HB12 HBW9 HBW10 HBW11 hnn hl60 hm60 ho60 HLW
  go_wp2_with fail
  refine (Write_nil w12).mono ?_
  rintro e w13 ⟨rfl, rfl⟩
  go_wp2_with fail
  refine (Close_nil w12).mono ?_
  rintro e w13 ⟨rfl, rfl⟩
  go_wp2_with fail
  have HS1 : Hid (cs1.size = 259) := Lib.hid HM12.out.tc.size
  have HS2 : Hid (cs2.size = 259) := Lib.hid HN12.out.tc.size
  obtain ⟨hl, hhl⟩ : ∃ z, s2.1.held = z := ⟨_, rfl⟩
  obtain ⟨nd, hnd⟩ : ∃ z : Nat, s2.1.node = z := ⟨_, rfl⟩
  have hl4 : hl.length ≤ 4 := by rw [← hhl]; exact drv_len HM12.out.ok HM12.out.sok
  have HDV : Hid (∀ V, Below w12.heap.size w12 V → (DrvB db cs1 nd ha11 hc11 hl (stI s2) V ∧ Sl V 1 ha11 hl.length (hl.map (Value.int .u8))) ∧ (DrvB dc cs2 nd ha12 hc12 hl (stI s2) V ∧ Sl V 1 ha12 hl.length (hl.map (Value.int .u8)))) := Lib.hid fun V hV => by
    rw [← hhl, ← hnd]
    have h1 := HM12.out.step (BelD.of_below hV) (hV.block _ HM12.out.box.lt)
    have h2 := HN12.out.step (BelD.of_below hV) (hV.block _ HN12.out.box.lt)
    refine ⟨⟨h1.box, ?_⟩, ⟨h2.box, ?_⟩⟩
    · have h := (h1.dep V (BelD.refl _ _)).2.sl
      rwa [← List.map_eq_flatMap] at h
    · have h := (h2.dep V (BelD.refl _ _)).2.sl
      rwa [← List.map_eq_flatMap] at h
  clear hhl hnd HM12 HN12
  have hndb : ((nd : Int) == (nd : Int)) = true := by simp
  refine wp_region_Z 46 (by kernel_rfl) (fun V => True) trivial (fun hHeld => ?_)
  refine wpAnyZ_take (i := 0) (v := ?_) rfl (by kernel_rfl) (by kernel_rfl) (by kernel_rfl) (by kernel_rfl) (fun _ _ _ h => h) (.inl ⟨by kernel_rfl, ?_⟩) (by assumption) ?_
  rotate_left
  · intro _ _; go_simp; (try with_reducible rfl)
  (try simp only [Act.put, List.getElem_toArray, List.getElem_cons_succ, List.getElem_cons_zero, List.setIfInBounds_toArray, List.set_cons_zero, List.set_cons_succ])
  refine wpAnyZ_take (i := 1) (v := ?_) rfl (by kernel_rfl) (by kernel_rfl) (by kernel_rfl) (by kernel_rfl) (fun _ _ _ h => h) (.inl ⟨by kernel_rfl, ?_⟩) (by assumption) ?_
  rotate_left
  · intro _ _; go_simp; (try with_reducible rfl)
  (try simp only [Act.put, List.getElem_toArray, List.getElem_cons_succ, List.getElem_cons_zero, List.setIfInBounds_toArray, List.set_cons_zero, List.set_cons_succ])
  refine wpAnyZ_take (i := 2) (v := ?_) rfl (by kernel_rfl) (by kernel_rfl) (by kernel_rfl) (by kernel_rfl) (fun _ _ _ h => h) (.inl ⟨by kernel_rfl, ?_⟩) (by assumption) ?_
  rotate_left
  · intro _ _; go_simp; (try with_reducible rfl)
  (try simp only [Act.put, List.getElem_toArray, List.getElem_cons_succ, List.getElem_cons_zero, List.setIfInBounds_toArray, List.set_cons_zero, List.set_cons_succ])
  refine wpAnyZ_take (i := 3) (v := ?_) rfl (by kernel_rfl) (by kernel_rfl) (by kernel_rfl) (by kernel_rfl) (fun _ _ _ h => h) (.inl ⟨by kernel_rfl, ?_⟩) (by assumption) ?_
  rotate_left
  · intro _ _; go_simp; (try with_reducible rfl)
  (try simp only [Act.put, List.getElem_toArray, List.getElem_cons_succ, List.getElem_cons_zero, List.setIfInBounds_toArray, List.set_cons_zero, List.set_cons_succ])
  refine wpAnyZ_take (i := 4) (v := ?_) rfl (by kernel_rfl) (by kernel_rfl) (by kernel_rfl) (by kernel_rfl) (fun _ _ _ h => h) (.inl ⟨by kernel_rfl, ?_⟩) (by assumption) ?_
  rotate_left
  · intro _ _; go_simp; (try with_reducible rfl)
  (try simp only [Act.put, List.getElem_toArray, List.getElem_cons_succ, List.getElem_cons_zero, List.setIfInBounds_toArray, List.set_cons_zero, List.set_cons_succ])
  refine wpAnyZ_take (i := 6) (v := ?_) rfl (by kernel_rfl) (by kernel_rfl) (by kernel_rfl) (by kernel_rfl) (fun _ _ _ h => h) (.inl ⟨by kernel_rfl, ?_⟩) (by assumption) ?_
  rotate_left
  · intro _ _; go_simp; (try with_reducible rfl)
  (try simp only [Act.put, List.getElem_toArray, List.getElem_cons_succ, List.getElem_cons_zero, List.setIfInBounds_toArray, List.set_cons_zero, List.set_cons_succ])
  refine wpAnyZ_ready (i := 5) (by kernel_rfl) rfl (fun K hK => ?_)
  rw [if_pos (by kernel_rfl)]
  go_simp
  refine (Node_st (HDV.out _ (Below.refl _ w12).drew).1.1 HS1.out).mono ?_
  rintro e w13 ⟨rfl, rfl⟩
  refine hK.out _ _ (trivial) (fun hHeld => ?_)
  clear hK K
  (try simp only [Act.put, List.getElem_toArray, List.getElem_cons_succ, List.getElem_cons_zero, List.setIfInBounds_toArray, List.set_cons_zero, List.set_cons_succ])
  refine wpAnyZ_ready (i := 7) (by kernel_rfl) rfl (fun K hK => ?_)
  rw [if_pos (by kernel_rfl)]
  go_simp
  refine (Node_st (HDV.out _ (Below.refl _ w12).drew).2.1 HS2.out).mono ?_
  rintro e w13 ⟨rfl, rfl⟩
  refine hK.out _ _ (trivial) (fun hHeld => ?_)
  clear hK K
  (try simp only [Act.put, List.getElem_toArray, List.getElem_cons_succ, List.getElem_cons_zero, List.setIfInBounds_toArray, List.set_cons_zero, List.set_cons_succ])
  refine wpAnyZ_take (i := 8) (v := ?_) rfl (by kernel_rfl) (by kernel_rfl) (by kernel_rfl) (by kernel_rfl) (fun _ _ _ h => h) (.inl ⟨by kernel_rfl, ?_⟩) (by assumption) ?_
  rotate_left
  · intro _ _; go_simp; (try with_reducible rfl)
  (try simp only [Act.put, List.getElem_toArray, List.getElem_cons_succ, List.getElem_cons_zero, List.setIfInBounds_toArray, List.set_cons_zero, List.set_cons_succ])
  refine wpAnyZ_take (i := 9) (v := ?_) rfl (by kernel_rfl) (by kernel_rfl) (by kernel_rfl) (by kernel_rfl) (fun _ _ _ h => h) (.inl ⟨by kernel_rfl, ?_⟩) (by assumption) ?_
  rotate_left
  · intro _ _; go_simp; (try with_reducible rfl)
  (try simp only [Act.put, List.getElem_toArray, List.getElem_cons_succ, List.getElem_cons_zero, List.setIfInBounds_toArray, List.set_cons_zero, List.set_cons_succ])
  refine wpAnyZ_take (i := 10) (v := ?_) rfl (by kernel_rfl) (by kernel_rfl) (by kernel_rfl) (by kernel_rfl) (fun _ _ _ h => h) (.inl ⟨by kernel_rfl, ?_⟩) (by assumption) ?_
  rotate_left
  · intro _ _; go_simp; (try with_reducible rfl)
  (try simp only [Act.put, List.getElem_toArray, List.getElem_cons_succ, List.getElem_cons_zero, List.setIfInBounds_toArray, List.set_cons_zero, List.set_cons_succ])
  refine wpAnyZ_take (i := 11) (v := ?_) rfl (by kernel_rfl) (by kernel_rfl) (by kernel_rfl) (by kernel_rfl) (fun _ _ _ h => h) (.inl ⟨by kernel_rfl, ?_⟩) (by assumption) ?_
  rotate_left
  · intro _ _; go_simp; (try with_reducible rfl)
  (try simp only [Act.put, List.getElem_toArray, List.getElem_cons_succ, List.getElem_cons_zero, List.setIfInBounds_toArray, List.set_cons_zero, List.set_cons_succ])
  refine wpAnyZ_take (i := 14) (v := ?_) rfl (by kernel_rfl) (by kernel_rfl) (by kernel_rfl) (by kernel_rfl) (fun _ _ _ h => h) (.inl ⟨by kernel_rfl, ?_⟩) (by assumption) ?_
  rotate_left
  · intro _ _; go_simp; (try with_reducible rfl)
  (try simp only [Act.put, List.getElem_toArray, List.getElem_cons_succ, List.getElem_cons_zero, List.setIfInBounds_toArray, List.set_cons_zero, List.set_cons_succ])
  refine wpAnyZ_ready (i := 12) (by kernel_rfl) rfl (fun K hK => ?_)
  rw [if_pos (by kernel_rfl)]
  go_simp
  refine (Held_st (HDV.out _ (Below.refl _ w12).drew).1.1 HS1.out (HDV.out _ (Below.refl _ w12).drew).1.2 (by omega)).mono ?_
  rintro e w14 ⟨A14, c14, rfl, HO14, HB14⟩
  have HBX14 : Hid (Below w12.heap.size w12 w14) := Lib.hid ((Below.refl w12.heap.size w12).drew.trans HB14.out)
  refine hK.out _ _ (trivial) (fun hHeld => ?_)
  clear hK K
  (try simp only [Act.put, List.getElem_toArray, List.getElem_cons_succ, List.getElem_cons_zero, List.setIfInBounds_toArray, List.set_cons_zero, List.set_cons_succ])
  have HS14 : Hid (Sl w14 1 A14 hl.length (hl.map (Value.int .u8))) := Lib.hid (Sl.of_own HO14.out)
  obtain ⟨sh, hsh⟩ : ∃ z, strOfNums hl = z := ⟨_, rfl⟩
  have HSH := Lib.hid hsh
  have HCV : Hid (∀ (V : World) (X : Option Addr) (cx : Nat), Sl V 1 X hl.length (hl.map (Value.int .u8)) → (convert 79 9 (.slice X hl.length cx)).run Tryz.prog V = .ok (.string sh) V) := Lib.hid fun V X cx h => by
    rw [← hsh]; exact run_conv_str (P := Tryz.prog) V 79 5 Tryz.underlying79 Tryz.underlying5 X hl.length cx hl h 9 Tryz.underlying9
  have HHC : Hid (∀ (V : World), Below w12.heap.size w12 V → Calls Tryz.prog 45 #[.pointer (some ⟨dc, 0, none⟩)] V (RetOwn V 5 1 hl.length (hl.map (Value.int .u8)))) := Lib.hid fun V hV => Held_st (HDV.out V hV).2.1 HS2.out (HDV.out V hV).2.2 (by omega)
  clear hsh
  have hS14 := HS14.out
  refine wpAnyZ_more (S' := fun V => Sl V 1 A14 hl.length (hl.map (Value.int .u8))) (fun _ _ => trivial) _ _ _ _ ?_
  refine wpAnyZ_take (i := 13) (v := .string sh) rfl (by kernel_rfl) (by kernel_rfl) (by kernel_rfl) (by kernel_rfl) (fun _ _ _ h => h) (.inl ⟨by kernel_rfl, ?_⟩) (by assumption) ?_
  · intro V hSV
    have hcv := HCV.out V A14 c14 hSV
    go_simp
  (try simp only [Act.put, List.getElem_toArray, List.getElem_cons_succ, List.getElem_cons_zero, List.setIfInBounds_toArray, List.set_cons_zero, List.set_cons_succ])
  refine wpAnyZ_ready (i := 15) (by kernel_rfl) rfl (fun K hK => ?_)
  rw [if_pos (by kernel_rfl)]
  go_simp
  refine (HHC.out w14 HBX14.out).mono ?_
  rintro e w15 ⟨A15, c15, rfl, HO15, HB15⟩
  have HBF : Hid (Below w.heap.size w w15) := Lib.hid (HBW12.out.trans ((HBX14.out.trans (HB15.out.mono HBX14.out.size)).mono HBW12.out.size))
  have HS15 : Hid (Sl w15 1 A14 hl.length (hl.map (Value.int .u8))) := Lib.hid (Sl.of_own (own_keep HO14.out fun k hk => HB15.out.block k (own_ty HO14.out hk).2.1))
  refine hK.out _ _ (HS15.out) (fun hHeld => ?_)
  clear hK K
  (try simp only [Act.put, List.getElem_toArray, List.getElem_cons_succ, List.getElem_cons_zero, List.setIfInBounds_toArray, List.set_cons_zero, List.set_cons_succ])
  refine wpAnyZ_ready (i := 16) (by kernel_rfl) rfl (fun K hK => ?_)
  rw [if_pos (by kernel_rfl)]
  have hcv := HCV.out w15 A15 c15 (Sl.of_own HO15.out)
  go_simp
  refine hK.out _ _ (HS15.out) (fun hHeld => ?_)
  clear hK K
  (try simp only [Act.put, List.getElem_toArray, List.getElem_cons_succ, List.getElem_cons_zero, List.setIfInBounds_toArray, List.set_cons_zero, List.set_cons_succ])
  clear hcv hS14
  refine wpAnyZ_take (i := 17) (v := ?_) rfl (by kernel_rfl) (by kernel_rfl) (by kernel_rfl) (by kernel_rfl) (fun _ _ _ h => h) (.inl ⟨by kernel_rfl, ?_⟩) (by assumption) ?_
  rotate_left
  · intro _ _; go_simp; (try with_reducible rfl)
  (try simp only [Act.put, List.getElem_toArray, List.getElem_cons_succ, List.getElem_cons_zero, List.setIfInBounds_toArray, List.set_cons_zero, List.set_cons_succ])
  refine wpAnyZ_take (i := 18) (v := ?_) rfl (by kernel_rfl) (by kernel_rfl) (by kernel_rfl) (by kernel_rfl) (fun _ _ _ h => h) (.inl ⟨by kernel_rfl, ?_⟩) (by assumption) ?_
  rotate_left
  · intro _ _; go_simp; (try with_reducible rfl)
  (try simp only [Act.put, List.getElem_toArray, List.getElem_cons_succ, List.getElem_cons_zero, List.setIfInBounds_toArray, List.set_cons_zero, List.set_cons_succ])
  refine wpAnyZ_take (i := 19) (v := ?_) rfl (by kernel_rfl) (by kernel_rfl) (by kernel_rfl) (by kernel_rfl) (fun _ _ _ h => h) (.inl ⟨by kernel_rfl, ?_⟩) (by assumption) ?_
  rotate_left
  · intro _ _; go_simp; (try with_reducible rfl)
  (try simp only [Act.put, List.getElem_toArray, List.getElem_cons_succ, List.getElem_cons_zero, List.setIfInBounds_toArray, List.set_cons_zero, List.set_cons_succ])
  refine wpAnyZ_take (i := 20) (v := ?_) rfl (by kernel_rfl) (by kernel_rfl) (by kernel_rfl) (by kernel_rfl) (fun _ _ _ h => h) (.inl ⟨by kernel_rfl, ?_⟩) (by assumption) ?_
  rotate_left
  · intro _ _; go_simp; (try with_reducible rfl)
  (try simp only [Act.put, List.getElem_toArray, List.getElem_cons_succ, List.getElem_cons_zero, List.setIfInBounds_toArray, List.set_cons_zero, List.set_cons_succ])
  refine wpAnyZ_ready (i := 21) (by kernel_rfl) rfl (fun K hK => ?_)
  rw [if_pos (by kernel_rfl)]
  go_simp
  refine (Copy_nil _).mono ?_
  rintro e w21 ⟨rfl, rfl⟩
  refine hK.out _ _ (HS15.out) (fun hHeld => ?_)
  clear hK K
  (try simp only [Act.put, List.getElem_toArray, List.getElem_cons_succ, List.getElem_cons_zero, List.setIfInBounds_toArray, List.set_cons_zero, List.set_cons_succ])
  refine wpAnyZ_take (i := 22) (v := ?_) rfl (by kernel_rfl) (by kernel_rfl) (by kernel_rfl) (by kernel_rfl) (fun _ _ _ h => h) (.inl ⟨by kernel_rfl, ?_⟩) (by assumption) ?_
  rotate_left
  · intro _ _; go_simp; (try with_reducible rfl)
  (try simp only [Act.put, List.getElem_toArray, List.getElem_cons_succ, List.getElem_cons_zero, List.setIfInBounds_toArray, List.set_cons_zero, List.set_cons_succ])
  refine wpAnyZ_take (i := 23) (v := ?_) rfl (by kernel_rfl) (by kernel_rfl) (by kernel_rfl) (by kernel_rfl) (fun _ _ _ h => h) (.inl ⟨by kernel_rfl, ?_⟩) (by assumption) ?_
  rotate_left
  · intro _ _; go_simp; (try with_reducible rfl)
  (try simp only [Act.put, List.getElem_toArray, List.getElem_cons_succ, List.getElem_cons_zero, List.setIfInBounds_toArray, List.set_cons_zero, List.set_cons_succ])
  refine wpAnyZ_take (i := 24) (v := ?_) rfl (by kernel_rfl) (by kernel_rfl) (by kernel_rfl) (by kernel_rfl) (fun _ _ _ h => h) (.inl ⟨by kernel_rfl, ?_⟩) (by assumption) ?_
  rotate_left
  · intro _ _; go_simp; (try with_reducible rfl)
  (try simp only [Act.put, List.getElem_toArray, List.getElem_cons_succ, List.getElem_cons_zero, List.setIfInBounds_toArray, List.set_cons_zero, List.set_cons_succ])
  refine wpAnyZ_take (i := 25) (v := ?_) rfl (by kernel_rfl) (by kernel_rfl) (by kernel_rfl) (by kernel_rfl) (fun _ _ _ h => h) (.inl ⟨by kernel_rfl, ?_⟩) (by assumption) ?_
  rotate_left
  · intro _ _; go_simp; (try with_reducible rfl)
  (try simp only [Act.put, List.getElem_toArray, List.getElem_cons_succ, List.getElem_cons_zero, List.setIfInBounds_toArray, List.set_cons_zero, List.set_cons_succ])
  refine wpAnyZ_take (i := 26) (v := ?_) rfl (by kernel_rfl) (by kernel_rfl) (by kernel_rfl) (by kernel_rfl) (fun _ _ _ h => h) (.inl ⟨by kernel_rfl, ?_⟩) (by assumption) ?_
  rotate_left
  · intro _ _; go_simp; (try with_reducible rfl)
  (try simp only [Act.put, List.getElem_toArray, List.getElem_cons_succ, List.getElem_cons_zero, List.setIfInBounds_toArray, List.set_cons_zero, List.set_cons_succ])
  refine wpAnyZ_take (i := 27) (v := ?_) rfl (by kernel_rfl) (by kernel_rfl) (by kernel_rfl) (by kernel_rfl) (fun _ _ _ h => h) (.inl ⟨by kernel_rfl, ?_⟩) (by assumption) ?_
  rotate_left
  · intro _ _; go_simp; (try with_reducible rfl)
  (try simp only [Act.put, List.getElem_toArray, List.getElem_cons_succ, List.getElem_cons_zero, List.setIfInBounds_toArray, List.set_cons_zero, List.set_cons_succ])
  refine wpAnyZ_take (i := 28) (v := ?_) rfl (by kernel_rfl) (by kernel_rfl) (by kernel_rfl) (by kernel_rfl) (fun _ _ _ h => h) (.inl ⟨by kernel_rfl, ?_⟩) (by assumption) ?_
  rotate_left
  · intro _ _; go_simp; (try with_reducible rfl)
  (try simp only [Act.put, List.getElem_toArray, List.getElem_cons_succ, List.getElem_cons_zero, List.setIfInBounds_toArray, List.set_cons_zero, List.set_cons_succ])
  refine wpAnyZ_take (i := 29) (v := ?_) rfl (by kernel_rfl) (by kernel_rfl) (by kernel_rfl) (by kernel_rfl) (fun _ _ _ h => h) (.inl ⟨by kernel_rfl, ?_⟩) (by assumption) ?_
  rotate_left
  · intro _ _; go_simp; (try with_reducible rfl)
  (try simp only [Act.put, List.getElem_toArray, List.getElem_cons_succ, List.getElem_cons_zero, List.setIfInBounds_toArray, List.set_cons_zero, List.set_cons_succ])
  refine wpAnyZ_take (i := 30) (v := ?_) rfl (by kernel_rfl) (by kernel_rfl) (by kernel_rfl) (by kernel_rfl) (fun _ _ _ h => h) (.inl ⟨by kernel_rfl, ?_⟩) (by assumption) ?_
  rotate_left
  · intro _ _; go_simp; (try with_reducible rfl)
  (try simp only [Act.put, List.getElem_toArray, List.getElem_cons_succ, List.getElem_cons_zero, List.setIfInBounds_toArray, List.set_cons_zero, List.set_cons_succ])
  refine wpAnyZ_take (i := 31) (v := ?_) rfl (by kernel_rfl) (by kernel_rfl) (by kernel_rfl) (by kernel_rfl) (fun _ _ _ h => h) (.inl ⟨by kernel_rfl, ?_⟩) (by assumption) ?_
  rotate_left
  · intro _ _; go_simp; (try with_reducible rfl)
  (try simp only [Act.put, List.getElem_toArray, List.getElem_cons_succ, List.getElem_cons_zero, List.setIfInBounds_toArray, List.set_cons_zero, List.set_cons_succ])
  refine wpAnyZ_take (i := 32) (v := ?_) rfl (by kernel_rfl) (by kernel_rfl) (by kernel_rfl) (by kernel_rfl) (fun _ _ _ h => h) (.inl ⟨by kernel_rfl, ?_⟩) (by assumption) ?_
  rotate_left
  · intro _ _; go_simp; (try with_reducible rfl)
  (try simp only [Act.put, List.getElem_toArray, List.getElem_cons_succ, List.getElem_cons_zero, List.setIfInBounds_toArray, List.set_cons_zero, List.set_cons_succ])
  refine wpAnyZ_take (i := 33) (v := ?_) rfl (by kernel_rfl) (by kernel_rfl) (by kernel_rfl) (by kernel_rfl) (fun _ _ _ h => h) (.inl ⟨by kernel_rfl, ?_⟩) (by assumption) ?_
  rotate_left
  · intro _ _; go_simp; (try with_reducible rfl)
  (try simp only [Act.put, List.getElem_toArray, List.getElem_cons_succ, List.getElem_cons_zero, List.setIfInBounds_toArray, List.set_cons_zero, List.set_cons_succ])
  refine wpAnyZ_ready (i := 34) (by kernel_rfl) rfl (fun K hK => ?_)
  rw [if_pos (by kernel_rfl)]
  go_simp
  refine (Node_nil _).mono ?_
  rintro e w21 ⟨rfl, rfl⟩
  refine hK.out _ _ (HS15.out) (fun hHeld => ?_)
  clear hK K
  (try simp only [Act.put, List.getElem_toArray, List.getElem_cons_succ, List.getElem_cons_zero, List.setIfInBounds_toArray, List.set_cons_zero, List.set_cons_succ])
  refine wpAnyZ_take (i := 35) (v := ?_) rfl (by kernel_rfl) (by kernel_rfl) (by kernel_rfl) (by kernel_rfl) (fun _ _ _ h => h) (.inl ⟨by kernel_rfl, ?_⟩) (by assumption) ?_
  rotate_left
  · intro _ _; go_simp; (try with_reducible rfl)
  (try simp only [Act.put, List.getElem_toArray, List.getElem_cons_succ, List.getElem_cons_zero, List.setIfInBounds_toArray, List.set_cons_zero, List.set_cons_succ])
  refine wpAnyZ_take (i := 36) (v := ?_) rfl (by kernel_rfl) (by kernel_rfl) (by kernel_rfl) (by kernel_rfl) (fun _ _ _ h => h) (.inl ⟨by kernel_rfl, ?_⟩) (by assumption) ?_
  rotate_left
  · intro _ _; go_simp; (try with_reducible rfl)
  (try simp only [Act.put, List.getElem_toArray, List.getElem_cons_succ, List.getElem_cons_zero, List.setIfInBounds_toArray, List.set_cons_zero, List.set_cons_succ])
  refine wpAnyZ_take (i := 37) (v := ?_) rfl (by kernel_rfl) (by kernel_rfl) (by kernel_rfl) (by kernel_rfl) (fun _ _ _ h => h) (.inl ⟨by kernel_rfl, ?_⟩) (by assumption) ?_
  rotate_left
  · intro _ _; go_simp; (try with_reducible rfl)
  (try simp only [Act.put, List.getElem_toArray, List.getElem_cons_succ, List.getElem_cons_zero, List.setIfInBounds_toArray, List.set_cons_zero, List.set_cons_succ])
  refine wpAnyZ_take (i := 38) (v := ?_) rfl (by kernel_rfl) (by kernel_rfl) (by kernel_rfl) (by kernel_rfl) (fun _ _ _ h => h) (.inl ⟨by kernel_rfl, ?_⟩) (by assumption) ?_
  rotate_left
  · intro _ _; go_simp; (try with_reducible rfl)
  (try simp only [Act.put, List.getElem_toArray, List.getElem_cons_succ, List.getElem_cons_zero, List.setIfInBounds_toArray, List.set_cons_zero, List.set_cons_succ])
  refine wpAnyZ_ready (i := 39) (by kernel_rfl) rfl (fun K hK => ?_)
  rw [if_pos (by kernel_rfl)]
  go_simp
  refine (Held_nil _).mono ?_
  rintro e w21 ⟨rfl, rfl⟩
  refine hK.out _ _ (HS15.out) (fun hHeld => ?_)
  clear hK K
  (try simp only [Act.put, List.getElem_toArray, List.getElem_cons_succ, List.getElem_cons_zero, List.setIfInBounds_toArray, List.set_cons_zero, List.set_cons_succ])
  refine wpAnyZ_take (i := 40) (v := ?_) rfl (by kernel_rfl) (by kernel_rfl) (by kernel_rfl) (by kernel_rfl) (fun _ _ _ h => h) (.inl ⟨by kernel_rfl, ?_⟩) (by assumption) ?_
  rotate_left
  · intro _ _; go_simp; (try with_reducible rfl)
  (try simp only [Act.put, List.getElem_toArray, List.getElem_cons_succ, List.getElem_cons_zero, List.setIfInBounds_toArray, List.set_cons_zero, List.set_cons_succ])
  refine wpAnyZ_take (i := 41) (v := ?_) rfl (by kernel_rfl) (by kernel_rfl) (by kernel_rfl) (by kernel_rfl) (fun _ _ _ h => h) (.inl ⟨by kernel_rfl, ?_⟩) (by assumption) ?_
  rotate_left
  · intro _ _; go_simp; (try with_reducible rfl)
  (try simp only [Act.put, List.getElem_toArray, List.getElem_cons_succ, List.getElem_cons_zero, List.setIfInBounds_toArray, List.set_cons_zero, List.set_cons_succ])
  refine wpAnyZ_take (i := 42) (v := ?_) rfl (by kernel_rfl) (by kernel_rfl) (by kernel_rfl) (by kernel_rfl) (fun _ _ _ h => h) (.inl ⟨by kernel_rfl, ?_⟩) (by assumption) ?_
  rotate_left
  · intro _ _; go_simp; (try with_reducible rfl)
  (try simp only [Act.put, List.getElem_toArray, List.getElem_cons_succ, List.getElem_cons_zero, List.setIfInBounds_toArray, List.set_cons_zero, List.set_cons_succ])
  refine wpAnyZ_take (i := 43) (v := ?_) rfl (by kernel_rfl) (by kernel_rfl) (by kernel_rfl) (by kernel_rfl) (fun _ _ _ h => h) (.inl ⟨by kernel_rfl, ?_⟩) (by assumption) ?_
  rotate_left
  · intro _ _; go_simp; (try with_reducible rfl)
  (try simp only [Act.put, List.getElem_toArray, List.getElem_cons_succ, List.getElem_cons_zero, List.setIfInBounds_toArray, List.set_cons_zero, List.set_cons_succ])
  refine wpAnyZ_ready (i := 44) (by kernel_rfl) rfl (fun K hK => ?_)
  rw [if_pos (by kernel_rfl)]
  go_simp
  refine (awake19_st (w0 := w15) (F := fun _ => True) (Lib.hid ⟨fun _ _ => trivial, Below.refl _ _⟩)).mono ?_
  rintro e w22 ⟨rfl, HK22⟩
  refine hK.out _ _ ((Sl.of_own (own_keep HO14.out fun k hk => (HK22.out.2.block k (Nat.lt_of_lt_of_le (own_ty HO14.out hk).2.1 HB15.out.size)).trans (HB15.out.block k (own_ty HO14.out hk).2.1)))) (fun hHeld => ?_)
  clear hK K
  (try simp only [Act.put, List.getElem_toArray, List.getElem_cons_succ, List.getElem_cons_zero, List.setIfInBounds_toArray, List.set_cons_zero, List.set_cons_succ])
  refine wpAnyZ_take (i := 45) (v := ?_) rfl (by kernel_rfl) (by kernel_rfl) (by kernel_rfl) (by kernel_rfl) (fun _ _ _ h => h) (.inl ⟨by kernel_rfl, ?_⟩) (by assumption) ?_
  rotate_left
  · intro _ _; go_simp; (try with_reducible rfl)
  (try simp only [Act.put, List.getElem_toArray, List.getElem_cons_succ, List.getElem_cons_zero, List.setIfInBounds_toArray, List.set_cons_zero, List.set_cons_succ])
  refine wpAnyZ_last (i := 46) rfl (by kernel_rfl) (by kernel_rfl) rfl (fun K hK => ?_)
  go_simp
  refine hK.out _ _ ?_
  clear hK K
  go_wp2_with fail
  go_ret
  exact ⟨rfl, HBF.out.trans (HK22.out.2.mono HBF.out.size)⟩
end Go.Proofs.YtlmkokeapbleoaaGreat
