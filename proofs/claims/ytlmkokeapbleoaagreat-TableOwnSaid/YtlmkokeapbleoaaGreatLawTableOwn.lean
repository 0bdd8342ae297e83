/- umlautlaw17.TableOwn: the walk. Two tables of one description share nothing. Condition: none beyond the row's own. -/
import Derived.Test.YtlmkokeapbleoaaGreatT18
import Derived.Test.YtlmkokeapbleoaaGreatT19
namespace Go.Proofs.YtlmkokeapbleoaaGreat
open Go.RowKit
set_option linter.unusedVariables false
set_option linter.unusedSimpArgs false
set_option maxRecDepth 100000 in
set_option maxHeartbeats 64000000 in
theorem TableOwn_walk (g : DescI) (w : World) (hD : DescR SpI g w) :
    Calls Tryz.prog 8 #[.agg #[.int .i64 g.i, .int .i64 g.o, .int .i64 g.n, .int .i64 g.s, .slice g.ra g.rs.length g.rc, .slice g.fa g.fs.length g.fc]] w fun e w' => e = .returned (.bool true) ∧ Below w.heap.size w w' := by
  obtain ⟨z, hz⟩ : ∃ z, z = zeroT := ⟨_, rfl⟩
  have HZ : Hid ((Tryz.prog.info? 49).map (fun i => i.zero) = some (some (.agg z))) := Lib.hid (by rw [hz]; exact info_tabZ)
  have HZS : Hid (z.size = 259) := Lib.hid (by rw [hz]; exact zeroT_size)
  have HK0 : Hid (St w w (fun W => DescR SpI g W)) := Lib.hid (St.start fun W hW => hD.below SpI.lasts hW)
  have HK := St.box HK0 [.int .i64 g.i, .int .i64 g.o, .int .i64 g.n, .int .i64 g.s, .slice g.ra g.rs.length g.rc, .slice g.fa g.fs.length g.fc] 26
  obtain ⟨q0, q1, q2, q3, q4, q5⟩ := HK.out.now.1.c6
  clear hz hD
  go_enter Tryz.func8, Tryz.ntmps8
  go_wp2_with fail
  by_cases hsm : SmallD g.L
  case neg =>
    have HV := Lib.hid (pB_false hsm)
    refine (small6_st HK g (fun _ h => h.2) SpI.lasts false HV).mono ?_
    rintro e w1 ⟨rfl, HK1⟩
    go_wp2_with fail
    refine (awake17_st HK1).mono ?_
    rintro e w2 ⟨rfl, HK2⟩
    go_wp2_with fail
    go_ret
    exact ⟨rfl, HK2.out.2⟩
  have HV := Lib.hid (pB_true hsm)
  refine (small6_st HK g (fun _ h => h.2) SpI.lasts true HV).mono ?_
  rintro e w1 ⟨rfl, HK1⟩
  have HK1 : Hid (St w w1 (fun W => BoxC w.heap.size [.int .i64 g.i, .int .i64 g.o, .int .i64 g.n, .int .i64 g.s, .slice g.ra g.rs.length g.rc, .slice g.fa g.fs.length g.fc] W ∧ DescW g W)) := Lib.hid (HK1.out.weaken fun W h => ⟨h.1, hsm.lst h.2⟩)
  clear q0 q1 q2 q3 q4 q5 HK HK0 HV hsm
  obtain ⟨q0, q1, q2, q3, q4, q5⟩ := HK1.out.now.1.c6
  go_wp2_with fail
  refine (compile_stN HK1 g (fun _ h => h.2) (stageD g)).mono ?_
  rintro e w2 ⟨cs, T, v, rfl, HTC, HK2, HSD, HDP, HB2⟩
  have HCS : Hid ((Tryz.prog.info? 49).map (·.size) = some cs.size) := Lib.hid (by rw [HTC.out.size]; exact info_tabS)
  have HCZ : Hid (z.size = cs.size) := Lib.hid (by rw [HZS.out, HTC.out.size])
  have HC1 := Lib.hid (cells_one HTC.out)
  have HK3 := tab_box17 (cs := cs) HK2 z
  clear q0 q1 q2 q3 q4 q5
  obtain ⟨q0, q1, q2, q3, q4, q5⟩ := HK3.out.now.2.2.1.c6
  obtain ⟨w3, hw3⟩ : ∃ z', (w2.alloc (.cells z 49)).setRow w2.heap.size cs = z' := ⟨_, rfl⟩
  rw [hw3] at HK3 q0 q1 q2 q3 q4 q5
  have hb23 : Below w2.heap.size w2 w3 := by rw [← hw3]; exact below_setRow ((Below.refl _ _).alloc (Nat.le_refl _) _) (Nat.le_refl _) _
  have hs23 : w3.heap.size = w2.heap.size + 1 := by rw [← hw3]; simp [World.setRow]
  have HB23 := Lib.hid hb23
  have HS23 := Lib.hid hs23
  clear hb23 hs23
  go_wp2_with (first
    | (refine wpList_allocZ rfl 49 rfl z HZ.out ?_)
    | (refine wpList_store_row rfl 49 _ _ rfl w2.heap.size cs rfl rfl 49 z (heap_alloc_new w2 _) HCS.out HCZ.out HC1.out ?_))
  (try rw [hw3])
  clear hw3
  refine (compile_stN HK3 g (fun _ h => h.2.2.2) (stageD g)).mono ?_
  rintro e w4 ⟨cs2, T2, v2, rfl, HTC2, HK4, HSD2, HDP2, HB4⟩
  have HONE := Lib.hid (HSD.out.one HSD2.out)
  have hv2 : v = v2 := HONE.out.2
  subst hv2
  have HCS2 : Hid ((Tryz.prog.info? 49).map (·.size) = some cs2.size) := Lib.hid (by rw [HTC2.out.size]; exact info_tabS)
  have HCZ2 : Hid (z.size = cs2.size) := Lib.hid (by rw [HZS.out, HTC2.out.size])
  have HC12 := Lib.hid (cells_one HTC2.out)
  have HK5 := tab_box17 (cs := cs2) HK4 z
  clear q0 q1 q2 q3 q4 q5
  obtain ⟨w5, hw5⟩ : ∃ z', (w4.alloc (.cells z 49)).setRow w4.heap.size cs2 = z' := ⟨_, rfl⟩
  rw [hw5] at HK5
  have hb45 : Below w4.heap.size w4 w5 := by rw [← hw5]; exact below_setRow ((Below.refl _ _).alloc (Nat.le_refl _) _) (Nat.le_refl _) _
  have HB45 := Lib.hid hb45
  have hne : (v != v) = false := by simp
  clear hb45
  go_wp2_with (first
    | (refine wpList_allocZ rfl 49 rfl z HZ.out ?_)
    | (refine wpList_store_row rfl 49 _ _ rfl w4.heap.size cs2 rfl rfl 49 z (heap_alloc_new w4 _) HCS2.out HCZ2.out HC12.out ?_))
  (try rw [hw5])
  clear hw5
  have hnf : ∀ V, (TabBox w4.heap.size cs2 V ∧ TabW T2 V ∧ TabBox w2.heap.size cs V ∧ TabW T V ∧ BoxC w.heap.size [.int .i64 g.i, .int .i64 g.o, .int .i64 g.n, .int .i64 g.s, .slice g.ra g.rs.length g.rc, .slice g.fa g.fs.length g.fc] V ∧ DescW g V) → TabW T V ∧ TabW T2 V := fun V h => ⟨h.2.2.2.1, h.2.1⟩
  have HNF := Lib.hid hnf
  clear hnf
  refine wp_load_row 49 _ rfl w2.heap.size rfl _ cs _ _ HK5.out.now.2.2.1 Tryz.underlying49 rfl HCS.out ?_
  go_wp2_with fail
  refine wp_load_row 49 _ rfl w4.heap.size rfl _ cs2 _ _ HK5.out.now.1 Tryz.underlying49 rfl HCS2.out ?_
  go_wp2_with (go_at_call 30; refine (Same17_st (St.here HK5) cs cs2 T T2 HTC.out HTC2.out (fun _ h => (HNF.out _ h).1) (fun _ h => (HNF.out _ h).2) HONE.out.1).mono ?_; rintro e w6 ⟨rfl, HK6⟩)
  have HB26 : Hid (Below w2.heap.size w2 w6) := Lib.hid (below_to (below_to (below_to HB23.out HB4.out) HB45.out) HK6.out.2)
  have HB16 : Hid (Below w1.heap.size w1 w6) := Lib.hid (below_to HB2.out HB26.out)
  have HB46 : Hid (Below w4.heap.size w4 w6) := Lib.hid (below_to HB45.out HK6.out.2)
  have HO6 : Hid (OwT w1.heap.size w2 w6 w6 T) := Lib.hid (OwT.start HDP.out HB26.out)
  have HBOX : Hid (∀ V, OwT w1.heap.size w2 w6 V T → V.cell? ⟨w2.heap.size, 256, none⟩ = some (.slice T.na T.ns.length T.nc) ∧ V.cell? ⟨w2.heap.size, 257, none⟩ = some (.slice T.aa T.acts.length T.ac)) := Lib.hid fun V hV => by
    have h1 : TabBox w2.heap.size cs w6 := HK6.out.now.2.2.1
    have h2 : TabBox w2.heap.size cs V := (hV.2.2.blk _ (Array.getElem?_eq_some_iff.1 h1).1 (.inr (Nat.le_refl _))).trans h1
    exact ⟨h2.cell1 HTC.out.c1, h2.cell1 HTC.out.c2⟩
  have HTW : Hid (TabW T w6) := Lib.hid (HNF.out _ HK6.out.now).1
  have hnl := HTW.out.nodes.ln
  have hal := HTW.out.acts.ln
  go_loopw [7] (fun iv wr => ∃ k : Nat, k ≤ T.ns.length ∧ iv = .int .i64 k ∧ Hid (OwT w1.heap.size w2 w6 wr T)) (fun iv _ => T.ns.length - (intOf iv).toNat)
  case atStart => exact ⟨0, Nat.zero_le _, rfl, HO6⟩
  case round =>
  clear HO6
  obtain ⟨k, hk, rfl, HO⟩ := hrel
  have p6 := (HBOX.out wr HO.out).1
  by_cases hlt : k < T.ns.length
  · obtain ⟨x, hx⟩ : ∃ x, T.ns[k]? = some x := ⟨_, List.getElem?_eq_getElem hlt⟩
    obtain ⟨nb, noff, y, hA, hg, r0, rf, r1⟩ := HO.out.node hx
    have HO2 := Lib.hid (HO.out.set 9 r0 (by unfold I64; omega) hg)
    have HX := Lib.hid hx
    have HA := Lib.hid hA
    have hxl := ((HTW.out.nodes.it x (List.mem_of_getElem? hx)).2).ln
    rw [hA] at p6
    have hkl : (k : Int) < (T.ns.length : Int) := by omega
    clear hx hA hg
    go_wp2_with fail
    clear p6 r0 rf r1 HO
    go_loopw [8] (fun iv wr => ∃ j : Nat, j ≤ x.nx.length ∧ iv = .int .i64 j ∧ Hid (OwT w1.heap.size w2 w6 wr T)) (fun iv _ => x.nx.length - (intOf iv).toNat)
    case atStart => exact ⟨0, Nat.zero_le _, rfl, HO2⟩
    case round =>
    clear HO2
    obtain ⟨j, hj, rfl, HO⟩ := hrel
    have p6 := (HBOX.out wr HO.out).1
    obtain ⟨nb', noff', y', hA', hg', r0, rf, r1⟩ := HO.out.node HX.out
    obtain ⟨rfl, rfl⟩ := addr_inj HA.out hA'
    rw [HA.out] at p6
    by_cases hjl : j < x.nx.length
    · obtain ⟨ib, ioff, y2, hI, hgi, s0, sf⟩ := HO.out.nx HX.out hjl
      have HO3 := Lib.hid (HO.out.set (-1) s0 (by unfold I64; omega) hgi)
      rw [hI] at r1
      have hji : (j : Int) < (x.nx.length : Int) := by omega
      clear hA' hI
      go_wp2_with fail
      go_roundw
      case rel => exact ⟨j + 1, by omega, by go_num, HO3⟩
      case measure => simp [intOf]; omega
    · obtain rfl : j = x.nx.length := by omega
      have hd : decide (x.nx.length < x.nx.length) = false := by simp
      clear hA' hjl
      go_wp2_with fail
      go_roundw
      case rel => exact ⟨k + 1, by omega, by go_num, HO⟩
      case measure => simp [intOf]; omega
  obtain rfl : k = T.ns.length := by omega
  have hd : decide (T.ns.length < T.ns.length) = false := by simp
  clear hlt
  go_wp2_with fail
  clear hd p6
  go_loopw [9] (fun iv wr => ∃ k : Nat, k ≤ T.acts.length ∧ iv = .int .i64 k ∧ Hid (OwT w1.heap.size w2 w6 wr T)) (fun iv _ => T.acts.length - (intOf iv).toNat)
  case atStart => exact ⟨0, Nat.zero_le _, rfl, HO⟩
  case round =>
  clear HO
  obtain ⟨k, hk, rfl, HO⟩ := hrel
  have p7 := (HBOX.out wr HO.out).2
  by_cases hlt : k < T.acts.length
  · obtain ⟨x, hx⟩ : ∃ x, T.acts[k]? = some x := ⟨_, List.getElem?_eq_getElem hlt⟩
    have HX := Lib.hid hx
    have hol := ((HTW.out.acts.it x (List.mem_of_getElem? hx)).2).ln
    have hkl : (k : Int) < (T.acts.length : Int) := by omega
    obtain ⟨ab, aoff, hA, _⟩ := HO.out.act hx
    have HA := Lib.hid hA
    rw [hA] at p7
    clear hx hA
    go_wp2_with fail
    clear p7
    go_loopw [10] (fun iv wr => ∃ j : Nat, j ≤ x.o.l.length ∧ iv = .int .i64 j ∧ Hid (OwT w1.heap.size w2 w6 wr T)) (fun iv _ => x.o.l.length - (intOf iv).toNat)
    case atStart => exact ⟨0, Nat.zero_le _, rfl, HO⟩
    case round =>
    clear HO
    obtain ⟨j, hj, rfl, HO⟩ := hrel
    have p7 := (HBOX.out wr HO.out).2
    obtain ⟨ab', aoff', hA', r2⟩ := HO.out.act HX.out
    obtain ⟨rfl, rfl⟩ := addr_inj HA.out hA'
    rw [HA.out] at p7
    by_cases hjl : j < x.o.l.length
    · obtain ⟨tm, ht⟩ : ∃ t, x.o.l[j]? = some t := ⟨_, List.getElem?_eq_getElem hjl⟩
      obtain ⟨tb, toff, y, hT, hg, s4, sf, s5⟩ := HO.out.term HX.out ht
      have HO2 := Lib.hid (HO.out.set 77 s4 (by unfold I64; omega) hg)
      have HTM := Lib.hid ht
      have HTA := Lib.hid hT
      have hpl := ((((HTW.out.acts.it x (List.mem_of_getElem? HX.out)).2).it tm (List.mem_of_getElem? ht)).2).ln
      rw [hT] at r2
      have hji : (j : Int) < (x.o.l.length : Int) := by omega
      clear hA' ht hT hg
      go_wp2_with fail
      clear p7 r2 s4 sf s5 HO
      go_loopw [11] (fun iv wr => ∃ q : Nat, q ≤ tm.ps.length ∧ iv = .int .i64 q ∧ Hid (OwT w1.heap.size w2 w6 wr T)) (fun iv _ => tm.ps.length - (intOf iv).toNat)
      case atStart => exact ⟨0, Nat.zero_le _, rfl, HO2⟩
      case round =>
      clear HO2
      obtain ⟨q, hq, rfl, HO⟩ := hrel
      have p7 := (HBOX.out wr HO.out).2
      obtain ⟨ab', aoff', hA', r2⟩ := HO.out.act HX.out
      obtain ⟨rfl, rfl⟩ := addr_inj HA.out hA'
      obtain ⟨tb', toff', y', hT', hg', s4, sf, s5⟩ := HO.out.term HX.out HTM.out
      obtain ⟨rfl, rfl⟩ := addr_inj HTA.out hT'
      rw [HA.out] at p7
      rw [HTA.out] at r2
      by_cases hql : q < tm.ps.length
      · obtain ⟨pb, poff, y2, hP, hgp, u0, uf⟩ := HO.out.part HX.out HTM.out hql
        have HO3 := Lib.hid (HO.out.set 9 u0 (by unfold I64; omega) hgp)
        rw [hP] at s5
        have hqi : (q : Int) < (tm.ps.length : Int) := by omega
        clear hA' hT' hP
        go_wp2_with fail
        go_roundw
        case rel => exact ⟨q + 1, by omega, by go_num, HO3⟩
        case measure => simp [intOf]; omega
      · obtain rfl : q = tm.ps.length := by omega
        have hd : decide (tm.ps.length < tm.ps.length) = false := by simp
        clear hA' hT' hql
        go_wp2_with fail
        go_roundw
        case rel => exact ⟨j + 1, by omega, by go_num, HO⟩
        case measure => simp [intOf]; omega
    · obtain rfl : j = x.o.l.length := by omega
      have hd : decide (x.o.l.length < x.o.l.length) = false := by simp
      clear hA' hjl
      go_wp2_with fail
      go_roundw
      case rel => exact ⟨k + 1, by omega, by go_num, HO⟩
      case measure => simp [intOf]; omega
  obtain rfl : k = T.acts.length := by omega
  have hd : decide (T.acts.length < T.acts.length) = false := by simp
  have HK7 : Hid (St w wr (fun W => TabBox w4.heap.size cs2 W ∧ TabW T2 W ∧ BoxC w.heap.size [.int .i64 g.i, .int .i64 g.o, .int .i64 g.n, .int .i64 g.s, .slice g.ra g.rs.length g.rc, .slice g.fa g.fs.length g.fc] W ∧ DescW g W)) := Lib.hid (by
    have hJ := HO.out.2.2
    have hb1 : Below w1.heap.size w1 wr := HB16.out.trans hJ.bel
    have h46 := HB46.out.size
    have h24 : w2.heap.size < w3.heap.size := by have := HS23.out; omega
    refine ⟨fun W hW => ⟨?_, ?_, HK1.out.1 W (below_to hb1 hW)⟩, below_to HK1.out.2 hb1⟩
    · have h1 : TabBox w4.heap.size cs2 w6 := HK6.out.now.1
      have hlt6 := (Array.getElem?_eq_some_iff.1 h1).1
      have h34 := HB4.out.size
      have h2 : TabBox w4.heap.size cs2 wr := (hJ.blk _ hlt6 (.inr (by omega))).trans h1
      exact TabBox.below h2 hW
    · refine (HDP2.out W fun j h1 h2 => ?_).1
      exact (hW.block j (by have := hJ.bel.size; omega)).trans ((hJ.blk j (by omega) (.inr (by omega))).trans (HB46.out.block j h2)))
  obtain ⟨q0, q1, q2, q3, q4, q5⟩ := HK7.out.now.2.2.1.c6
  clear hlt HO
  go_wp2_with fail
  refine (compile_stN HK7 g (fun _ h => h.2.2.2) (stageD g)).mono ?_
  rintro e w8 ⟨cs3, T3, v3, rfl, HTC3, HK8, HSD3, HDP3, HB8⟩
  have HONE3 := Lib.hid (HSD2.out.one HSD3.out)
  have hv3 : v = v3 := HONE3.out.2
  subst hv3
  have HCS3 : Hid ((Tryz.prog.info? 49).map (·.size) = some cs3.size) := Lib.hid (by rw [HTC3.out.size]; exact info_tabS)
  have HCZ3 : Hid (z.size = cs3.size) := Lib.hid (by rw [HZS.out, HTC3.out.size])
  have HC13 := Lib.hid (cells_one HTC3.out)
  have HK9 := tab_box17 (cs := cs3) HK8 z
  clear q0 q1 q2 q3 q4 q5 hd p7
  obtain ⟨w9, hw9⟩ : ∃ z', (w8.alloc (.cells z 49)).setRow w8.heap.size cs3 = z' := ⟨_, rfl⟩
  rw [hw9] at HK9
  have heq : (v == v) = true := by simp
  clear hne
  go_wp2_with (first
    | (refine wpList_allocZ rfl 49 rfl z HZ.out ?_)
    | (refine wpList_store_row rfl 49 _ _ rfl w8.heap.size cs3 rfl rfl 49 z (heap_alloc_new w8 _) HCS3.out HCZ3.out HC13.out ?_))
  (try rw [hw9])
  clear hw9
  refine wp_load_row 49 _ rfl w4.heap.size rfl _ cs2 _ _ HK9.out.now.2.2.1 Tryz.underlying49 rfl HCS2.out ?_
  go_wp2_with fail
  refine wp_load_row 49 _ rfl w8.heap.size rfl _ cs3 _ _ HK9.out.now.1 Tryz.underlying49 rfl HCS3.out ?_
  go_wp2_with (first
    | (go_at_call 30; refine (Same17_st HK9 cs2 cs3 T2 T3 HTC2.out HTC3.out (fun _ h => h.2.2.2.1) (fun _ h => h.2.1) HONE3.out.1).mono ?_; rintro e w10 ⟨rfl, HK10⟩)
    | (go_at_call 27; refine (awake17_st HK10).mono ?_; rintro e w11 ⟨rfl, HK11⟩))
  go_ret
  exact ⟨rfl, HK11.out.2⟩
end Go.Proofs.YtlmkokeapbleoaaGreat
