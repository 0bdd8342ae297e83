/- Contract of the driver's Close. Condition: the driver is known. Contract of umlautlaw19.great: what is too large. Condition: the table and the operations are known. Contracts of the packages word and umlautref02: In, Fits, Front, Compare. Condition: the slices that come in are no longer than an int can count. Contracts of the packages word and umlautref02: Front, Compare. Condition: the slices that come in are no longer than an int can count. Contract of word.Of: of any text the runes that a range over it tells. Condition: the text is shorter than 2^40 bytes. Contracts of word.Domain, umlautref02.Domain, umlautref02.Same. Condition: the slices that come in are no longer than an int can count. Contracts of word.Raw and word.Bytes. Condition: the slices that come in have fewer than 2^40 elements. Conversions between bytes and strings in the walk's spelling. Condition: none. Contract of umlautlaw19.plays: what a driver answers to operations, in one string. Condition: the driver and the operations are known. Contract of drive.Run; a driver that is new. Condition: the table and the bytes are known. Two drivers side by side: what is known of the one while the other one goes. No function of the program in sight. Condition: none. Loading a struct that is a part of a block's cells. No function of the program in sight. Condition: its cells are known. Contract of the driver's Copy; the driver that is nil. Condition: the driver is known, or nil. Plain law of cycles: a queue of the states without an edge that comes in goes through all states just if the document finds no way of n+1 edges. No program in sight. Condition: none. Words for descriptions in memory; what is right of a description, in plain words. No function of the program in sight. Condition: none. Contracts of word.Domain and desc.guards; Within and Meets said of members. Condition: the lists are known. -/
import Derived.Test.YtlmkokeapbleoaaGreatM09
import Derived.Test.YtlmkokeapbleoaaGreatM06
import Derived.Test.YtlmkokeapbleoaaGreatM01
import Derived.Laws.StructEq
import Derived.OpenShut
import Derived.Laws.BytesArg
import Derived.Test.YtlmkokeapbleoaaGreatM04
set_option maxRecDepth 100000
set_option maxHeartbeats 64000000
set_option linter.unusedVariables false
set_option linter.unusedSimpArgs false
section
namespace Go.Proofs.YtlmkokeapbleoaaGreat
open Go.RowKit Go.Shelf
def RetCl (D : Nat → Prop) (db : Nat) (cs : Array Value) (T : TabI) (s : DrvS) (W : World) (e : Ending) (W' : World) : Prop :=
  ∃ A c ha' hc', e = .returned (.tuple #[.slice A (clS T.L s).2.1.length c, .int .i64 (clS T.L s).2.2]) ∧ Hid (DrvK D db cs T (clS T.L s).1 ha' hc' W') ∧ Hid (BelD (fun k => k = db) W W') ∧ Hid (∀ V, BelD D W' V → BytesAt A (clS T.L s).2.1 V) ∧ Hid (W'.ownsRow W.heap.size 5 1 (.slice A (clS T.L s).2.1.length c) (clS T.L s).2.1.length ((clS T.L s).2.1.map (Value.int .u8))) ∧ Hid ((clS T.L s).2.1.length ≤ 64)
section
variable {D : Nat → Prop} {db : Nat} {cs : Array Value} {T : TabI} {s : DrvS} {ha : Option Addr} {hc : Nat} {W : World}
theorem end_at {T : TabI} {j : Nat} {o : OutI} (h : T.es[j]? = some o) : T.L.ends[j]? = some o.L := by
  rw [show T.L.ends = T.es.map OutI.L from rfl, List.getElem?_map, h]; rfl
theorem Close_st (HKD : Hid (DrvK D db cs T s ha hc W)) :
    Calls Tryz.prog 40 #[.pointer (some ⟨db, 0, none⟩)] W (RetCl D db cs T s W) := by
  have hs := HKD.out.tc.size
  by_cases he : errI s ≠ 0
  · have HW : Hid (clS T.L s = (s, [], errI s)) := Lib.hid (by unfold clS; rw [if_pos he])
    have hne : (errI s != 0) = true := by rw [bne_iff_ne]; exact he
    go_enter Tryz.func40, Tryz.ntmps40
    go_wp2_with fail
    refine (fault_st HKD.out.box hs).mono ?_
    rintro e w1 ⟨rfl, rfl⟩
    clear he
    go_wp2_with fail
    go_ret2
    refine ⟨none, 0, ha, hc, by rw [HW.out]; rfl, by rw [HW.out]; exact HKD, Lib.hid (BelD.refl _ _), Lib.hid fun V _ => ?_, Lib.hid ?_, Lib.hid (by rw [HW.out]; exact Nat.zero_le _)⟩
    · rw [HW.out]
      exact BytesAt.nil_ _ _
    · rw [HW.out]
      exact World.ownsRow_nil _ _ _ _
  have he0 : errI s = 0 := Classical.not_not.1 he
  obtain ⟨hrj, hcl⟩ : s.1.rej = false ∧ s.2 = false := by
    unfold errI at he0
    rcases h1 : s.1.rej with _ | _
    · rcases h2 : s.2 with _ | _
      · exact ⟨rfl, rfl⟩
      · rw [h1, h2] at he0; simp at he0
    · rw [h1] at he0; simp at he0
  obtain ⟨s0, sc0⟩ := s
  simp only at hrj hcl
  subst hcl
  have HW : Hid (clS T.L (s0, false) = if endL' T.L s0.node < 0 then ((Drv.rejd, false), [], 7) else ((s0, true), wrB (T.L.ends.getD (endL' T.L s0.node).toNat []) s0.held, 0)) := Lib.hid (by unfold clS; rw [if_neg (by simpa using he)])
  have HRJ := Lib.hid hrj
  have hne : (errI (s0, false) != 0) = false := by rw [he0]; rfl
  have hnl : s0.node < T.ns.length := by have := HKD.out.sok.lt; rwa [nodesL_len] at this
  have htw := (HKD.out.dep W (BelD.refl _ _)).1
  obtain ⟨nb, noff, n, hnA, hnx, hnw, m0, m1, m2⟩ := htw.nodes.at_ hnl
  have hLn : T.L.nodes[s0.node]? = some n.L := nodesL_at hnx
  have hend : endL' T.L s0.node = n.e := by unfold endL'; rw [hLn]; rfl
  have hno := HKD.out.ok.nodes n.L (List.mem_of_getElem? hLn)
  have d256 := HKD.out.box.cell (drvC_lo HKD.out.tc.c1)
  have d259 := HKD.out.box.cNode hs
  simp only at d259
  rw [hnA] at d256
  have HFA : Hid (∀ V, Below W.heap.size W V → V.cell? ⟨db, 256, none⟩ = some (.slice (some ⟨nb, noff, none⟩) T.ns.length T.nc) ∧ V.cell? ⟨db, 259, none⟩ = some (.int .i64 s0.node) ∧ V.cell? ⟨nb, noff + s0.node * 3, none⟩ = some (.int .i64 n.h) ∧ V.cell? ⟨nb, noff + s0.node * 3 + 1, none⟩ = some (.slice n.na n.nx.length n.nc) ∧ V.cell? ⟨nb, noff + s0.node * 3 + 2, none⟩ = some (.int .i64 n.e)) := Lib.hid fun V hV =>
    ⟨(hV.cell (lt_of_cell d256)).trans d256, (hV.cell (lt_of_cell d259)).trans d259, (hV.cell (lt_of_cell m0)).trans m0, (hV.cell (lt_of_cell m1)).trans m1, (hV.cell (lt_of_cell m2)).trans m2⟩
  have HEND := Lib.hid hend
  have HNO := Lib.hid hno
  have hnode : (s0.node : Int) < (T.ns.length : Int) := by omega
  clear he hrj htw hnA hnx hnw m0 m1 m2 hLn hend hno d256 d259
  go_enter Tryz.func40, Tryz.ntmps40
  go_wp2_with fail
  refine (fault_st HKD.out.box hs).mono ?_
  rintro e w1 ⟨rfl, rfl⟩
  rw [he0]
  clear hne he0
  go_wp2_with fail
  refine wp_region_Z 12 (by kernel_rfl) (fun V => V.cell? ⟨db, 256, none⟩ = some (.slice (some ⟨nb, noff, none⟩) T.ns.length T.nc) ∧ V.cell? ⟨db, 259, none⟩ = some (.int .i64 s0.node) ∧ V.cell? ⟨nb, noff + s0.node * 3, none⟩ = some (.int .i64 n.h) ∧ V.cell? ⟨nb, noff + s0.node * 3 + 1, none⟩ = some (.slice n.na n.nx.length n.nc) ∧ V.cell? ⟨nb, noff + s0.node * 3 + 2, none⟩ = some (.int .i64 n.e)) (HFA.out _ (Below.refl _ W).drew) (fun hHeld => ?_)
  refine wpAnyZ_take (i := 0) (v := ?_) rfl (by kernel_rfl) (by kernel_rfl) (by kernel_rfl) (by kernel_rfl) (fun _ _ _ h => h) (Or.inl ⟨by first | kernel_rfl | rfl, ?_⟩) (by assumption) ?_
  rotate_left
  · intro w hSw; (try dsimp only at hSw); go_simp; (try with_reducible rfl)
  (try simp only [Act.put, List.getElem_toArray, List.getElem_cons_succ, List.getElem_cons_zero, List.setIfInBounds_toArray, List.set_cons_zero, List.set_cons_succ])
  refine wpAnyZ_take (i := 1) (v := ?_) rfl (by kernel_rfl) (by kernel_rfl) (by kernel_rfl) (by kernel_rfl) (fun _ _ _ h => h) (Or.inl ⟨by first | kernel_rfl | rfl, ?_⟩) (by assumption) ?_
  rotate_left
  · intro w hSw; (try dsimp only at hSw); go_simp; (try with_reducible rfl)
  (try simp only [Act.put, List.getElem_toArray, List.getElem_cons_succ, List.getElem_cons_zero, List.setIfInBounds_toArray, List.set_cons_zero, List.set_cons_succ])
  refine wpAnyZ_take (i := 2) (v := ?_) rfl (by kernel_rfl) (by kernel_rfl) (by kernel_rfl) (by kernel_rfl) (fun _ _ _ h => h) (Or.inl ⟨by first | kernel_rfl | rfl, ?_⟩) (by assumption) ?_
  rotate_left
  · intro w hSw; (try dsimp only at hSw); go_simp; (try with_reducible rfl)
  (try simp only [Act.put, List.getElem_toArray, List.getElem_cons_succ, List.getElem_cons_zero, List.setIfInBounds_toArray, List.set_cons_zero, List.set_cons_succ])
  refine wpAnyZ_take (i := 3) (v := ?_) rfl (by kernel_rfl) (by kernel_rfl) (by kernel_rfl) (by kernel_rfl) (fun _ _ _ h => h) (Or.inl ⟨by first | kernel_rfl | rfl, ?_⟩) (by assumption) ?_
  rotate_left
  · intro w hSw; (try dsimp only at hSw); go_simp; (try with_reducible rfl)
  (try simp only [Act.put, List.getElem_toArray, List.getElem_cons_succ, List.getElem_cons_zero, List.setIfInBounds_toArray, List.set_cons_zero, List.set_cons_succ])
  refine wpAnyZ_take (i := 4) (v := ?_) rfl (by kernel_rfl) (by kernel_rfl) (by kernel_rfl) (by kernel_rfl) (fun _ _ _ h => h) (Or.inl ⟨by first | kernel_rfl | rfl, ?_⟩) (by assumption) ?_
  rotate_left
  · intro w hSw; (try dsimp only at hSw); go_simp; (try with_reducible rfl)
  (try simp only [Act.put, List.getElem_toArray, List.getElem_cons_succ, List.getElem_cons_zero, List.setIfInBounds_toArray, List.set_cons_zero, List.set_cons_succ])
  refine wpAnyZ_take (i := 5) (v := ?_) rfl (by kernel_rfl) (by kernel_rfl) (by kernel_rfl) (by kernel_rfl) (fun _ _ _ h => h) (Or.inl ⟨by first | kernel_rfl | rfl, ?_⟩) (by assumption) ?_
  rotate_left
  · intro w hSw; (try dsimp only at hSw); go_simp; (try with_reducible rfl)
  (try simp only [Act.put, List.getElem_toArray, List.getElem_cons_succ, List.getElem_cons_zero, List.setIfInBounds_toArray, List.set_cons_zero, List.set_cons_succ])
  refine wpAnyZ_take (i := 6) (v := ?_) rfl (by kernel_rfl) (by kernel_rfl) (by kernel_rfl) (by kernel_rfl) (fun _ _ _ h => h) (Or.inl ⟨by first | kernel_rfl | rfl, ?_⟩) (by assumption) ?_
  rotate_left
  · intro w hSw; (try dsimp only at hSw); go_simp; (try with_reducible rfl)
  (try simp only [Act.put, List.getElem_toArray, List.getElem_cons_succ, List.getElem_cons_zero, List.setIfInBounds_toArray, List.set_cons_zero, List.set_cons_succ])
  refine wpAnyZ_take (i := 7) (v := ?_) rfl (by kernel_rfl) (by kernel_rfl) (by kernel_rfl) (by kernel_rfl) (fun _ _ _ h => h) (Or.inl ⟨by first | kernel_rfl | rfl, ?_⟩) (by assumption) ?_
  rotate_left
  · intro w hSw; (try dsimp only at hSw); go_simp; (try with_reducible rfl)
  (try simp only [Act.put, List.getElem_toArray, List.getElem_cons_succ, List.getElem_cons_zero, List.setIfInBounds_toArray, List.set_cons_zero, List.set_cons_succ])
  refine wpAnyZ_take (i := 8) (v := ?_) rfl (by kernel_rfl) (by kernel_rfl) (by kernel_rfl) (by kernel_rfl) (fun _ _ _ h => h) (Or.inl ⟨by first | kernel_rfl | rfl, ?_⟩) (by assumption) ?_
  rotate_left
  · intro w hSw; (try dsimp only at hSw); go_simp; (try with_reducible rfl)
  (try simp only [Act.put, List.getElem_toArray, List.getElem_cons_succ, List.getElem_cons_zero, List.setIfInBounds_toArray, List.set_cons_zero, List.set_cons_succ])
  refine wpAnyZ_take (i := 9) (v := ?_) rfl (by kernel_rfl) (by kernel_rfl) (by kernel_rfl) (by kernel_rfl) (fun _ _ _ h => h) (Or.inl ⟨by first | kernel_rfl | rfl, ?_⟩) (by assumption) ?_
  rotate_left
  · intro w hSw; (try dsimp only at hSw); go_simp; (try with_reducible rfl)
  (try simp only [Act.put, List.getElem_toArray, List.getElem_cons_succ, List.getElem_cons_zero, List.setIfInBounds_toArray, List.set_cons_zero, List.set_cons_succ])
  refine wpAnyZ_take (i := 10) (v := ?_) rfl (by kernel_rfl) (by kernel_rfl) (by kernel_rfl) (by kernel_rfl) (fun _ _ _ h => h) (Or.inl ⟨by first | kernel_rfl | rfl, ?_⟩) (by assumption) ?_
  rotate_left
  · intro w hSw; (try dsimp only at hSw); go_simp; (try with_reducible rfl)
  (try simp only [Act.put, List.getElem_toArray, List.getElem_cons_succ, List.getElem_cons_zero, List.setIfInBounds_toArray, List.set_cons_zero, List.set_cons_succ])
  refine wpAnyZ_ready (i := 11) (by kernel_rfl) rfl (fun K hK => ?_)
  go_simp
  refine hK.out _ _ ((HFA.out _ ((Below.refl _ W).drew.alloc (Nat.le_refl _) _))) (fun hHeld => ?_)
  clear hK K
  (try simp only [Act.put, List.getElem_toArray, List.getElem_cons_succ, List.getElem_cons_zero, List.setIfInBounds_toArray, List.set_cons_zero, List.set_cons_succ])
  refine wpAnyZ_last (i := 12) rfl (by kernel_rfl) (by kernel_rfl) rfl (fun K hK => ?_)
  go_simp
  refine hK.out _ _ ?_
  clear hK K hHeld
  obtain ⟨w4, hw4⟩ : ∃ z, (W.alloc (.cells #[.int .i64 n.h, .slice n.na n.nx.length n.nc, .int .i64 n.e] 64)).drew = z := ⟨_, rfl⟩
  have hb4 : Below W.heap.size W w4 := by rw [← hw4]; exact ((Below.refl _ W).alloc (Nat.le_refl _) _).drew
  have hxx : w4.heap[W.heap.size]? = some (.cells #[.int .i64 n.h, .slice n.na n.nx.length n.nc, .int .i64 n.e] 64 (0, 0)) := by rw [← hw4]; exact heap_alloc_new W _
  have y2 : w4.cell? ⟨W.heap.size, 2, none⟩ = some (.int .i64 n.e) := by simp [World.cell?, hxx]
  have HB4 := Lib.hid hb4
  have HXX := Lib.hid hxx
  have hst : stI (s0, false) = 0 := by unfold stI; rw [HRJ.out]; rfl
  have hbox := HKD.out.box.keep (hb4.block _ HKD.out.box.lt)
  rw [hst] at hbox
  have HBOX : Hid (DrvB db cs s0.node ha hc s0.held 0 w4) := Lib.hid hbox
  have HLT : Hid (db < W.heap.size ∧ ∀ k, D k → k < W.heap.size) := Lib.hid ⟨HKD.out.box.lt, HKD.out.lt⟩
  clear hb4 hxx hst hbox
  by_cases hf : n.e < 0
  · have HW2 : Hid (clS T.L (s0, false) = ((Drv.rejd, false), [], 7)) := Lib.hid (by rw [HW.out, HEND.out, if_pos hf])
    go_wp2_with fail
    (try rw [hw4])
    refine (reject_st HBOX.out hs).mono ?_
    rintro e w5 ⟨rfl, HB5, HE5⟩
    go_wp2_with fail
    go_ret2
    have hbd : BelD (fun k => k = db) W w5 := (BelD.of_below HB4.out).trans HE5.out
    refine ⟨none, 0, none, 0, by rw [HW2.out]; rfl, Lib.hid ?_, Lib.hid hbd, Lib.hid fun V _ => ?_, Lib.hid ?_, Lib.hid (by rw [HW2.out]; exact Nat.zero_le _)⟩
    · rw [HW2.out]
      exact ⟨HB5.out, HKD.out.tc, HKD.out.ok, ⟨(drv_right HKD.out.ok).pos, by simp [Drv.rejd, (drv_right HKD.out.ok).zero], fun _ => rfl⟩, fun V hV => ⟨(HKD.out.dep V ((hbd.mono fun k (e : k = db) => (e ▸ HKD.out.mem : D k)).trans hV)).1, BytesAt.nil_ _ _⟩, HKD.out.mem, fun k hk => Nat.lt_of_lt_of_le (HKD.out.lt k hk) hbd.size⟩
    · rw [HW2.out]; exact BytesAt.nil_ _ _
    · rw [HW2.out]; exact World.ownsRow_nil _ _ _ _
  obtain ⟨fn, hfn⟩ : ∃ fn : Nat, n.e = (fn : Int) := Int.eq_ofNat_of_zero_le (by omega)
  have hfl : fn < T.es.length := by
    have h := HNO.out.1.2.2.2.2
    rw [show T.L.ends = T.es.map OutI.L from rfl, List.length_map, show n.L.fin = n.e from rfl] at h
    omega
  obtain ⟨eb, eoff, o, heA, heo, hew, ec⟩ := (HKD.out.dep W (BelD.refl _ _)).1.ends.at_ hfl
  have hLe : T.L.ends[fn]? = some o.L := end_at heo
  have HW2 : Hid (clS T.L (s0, false) = ((s0, true), wrB o.L s0.held, 0)) := Lib.hid (by
    rw [HW.out, HEND.out, if_neg hf, hfn, Int.toNat_natCast, List.getD_eq_getElem?_getD, hLe]; rfl)
  have HTO : Hid (∀ t ∈ o.l, NumsOk t.L) := Lib.hid fun t ht => by
    obtain ⟨l, q1, q2⟩ := HNO.out.2.1 (by rw [show n.L.fin = n.e from rfl]; omega)
    rw [show n.L.fin = n.e from rfl, hfn, Int.toNat_natCast, hLe] at q1
    injection q1 with q1
    exact (q2 t.L (by rw [← q1]; exact List.mem_map.2 ⟨t, ht, rfl⟩)).1
  have hol : o.l.length ≤ 64 := by
    have h := HKD.out.ok.ends o.L (List.mem_of_getElem? hLe)
    rwa [show o.L = o.l.map TermI.L from rfl, List.length_map] at h
  have hh4 : s0.held.length ≤ 4 := drv_len HKD.out.ok HKD.out.sok
  have f1 := HBOX.out.fz 261
  have p1 := HBOX.out.cState hs
  obtain ⟨w5, hw5⟩ : ∃ z, w4.setCell ⟨db, 261, none⟩ (.int .i64 1) = z := ⟨_, rfl⟩
  have HBX : Hid (DrvB db cs s0.node ha hc s0.held 1 w5) := Lib.hid (by rw [← hw5]; exact HBOX.out.setState hs 1)
  have HBD : Hid (BelD (fun k => k = db) W w5) := Lib.hid (by rw [← hw5]; exact (BelD.of_below (D := fun k => k = db) HB4.out).setCell rfl _ _)
  have e258 := HBX.out.cell (drvC_lo HKD.out.tc.c3)
  have e260 := HBX.out.cHeld hs
  rw [heA] at e258
  have ec5 : w5.cell? ⟨eb, eoff + fn, none⟩ = some (.slice o.a o.l.length o.c) := by
    obtain ⟨b', o', z, hA2, hz, -, hcz⟩ := (HKD.out.dep w5 (HBD.out.mono fun k (e : k = db) => (e ▸ HKD.out.mem : D k))).1.ends.at_ hfl
    rw [heA] at hA2
    injection hA2 with e; injection e with e1 e2; subst e1 e2
    rw [heo] at hz; injection hz with hz; subst hz
    exact hcz
  have ey : w5.cell? ⟨W.heap.size, 2, none⟩ = some (.int .i64 (fn : Int)) := by
    have h : w5.heap[W.heap.size]? = w4.heap[W.heap.size]? := by rw [← hw5]; exact heap_setCell_other _ _ _ _ (by have := HLT.out.1; show W.heap.size ≠ db; omega)
    rw [← hfn, ← y2]; exact World.cell?_of_block h
  have HFB : Hid (∀ V, Below w5.heap.size w5 V → V.cell? ⟨db, 258, none⟩ = some (.slice (some ⟨eb, eoff, none⟩) T.es.length T.ec) ∧ V.cell? ⟨db, 260, none⟩ = some (.slice ha s0.held.length hc) ∧ V.cell? ⟨eb, eoff + fn, none⟩ = some (.slice o.a o.l.length o.c) ∧ V.cell? ⟨W.heap.size, 2, none⟩ = some (.int .i64 (fn : Int))) := Lib.hid fun V hV =>
    ⟨(hV.cell (lt_of_cell e258)).trans e258, (hV.cell (lt_of_cell e260)).trans e260, (hV.cell (lt_of_cell ec5)).trans ec5, (hV.cell (lt_of_cell ey)).trans ey⟩
  have hfi : (fn : Int) < (T.es.length : Int) := by omega
  have HEO := Lib.hid heo
  have HDW : Hid (∀ V, BelD (OwnR none) w5.drew V → TermsAt o.a o.l V ∧ BytesAt ha s0.held V) := Lib.hid fun V hV => by
    have h1 : BelD D W V := (HBD.out.mono fun k (e : k = db) => (e ▸ HKD.out.mem : D k)).trans ⟨hV.os, hV.tape, hV.output, hV.size, fun k hk _ => hV.block k hk (fun e => (by cases e))⟩
    have h2 := HKD.out.dep V h1
    exact ⟨h2.1.ends.it o (List.mem_of_getElem? HEO.out), h2.2⟩
  have HFN := Lib.hid hfn
  clear heA hew ec hLe heo e258 e260 ec5 ey hfn
  go_wp2_with fail
  (try rw [hw5])
  refine wp_region_Z 15 (by kernel_rfl) (fun V => V.cell? ⟨db, 258, none⟩ = some (.slice (some ⟨eb, eoff, none⟩) T.es.length T.ec) ∧ V.cell? ⟨db, 260, none⟩ = some (.slice ha s0.held.length hc) ∧ V.cell? ⟨eb, eoff + fn, none⟩ = some (.slice o.a o.l.length o.c) ∧ V.cell? ⟨W.heap.size, 2, none⟩ = some (.int .i64 (fn : Int))) (HFB.out _ (Below.refl _ w5).drew) (fun hHeld => ?_)
  refine wpAnyZ_take (i := 0) (v := ?_) rfl (by kernel_rfl) (by kernel_rfl) (by kernel_rfl) (by kernel_rfl) (fun _ _ _ h => h) (Or.inl ⟨by first | kernel_rfl | rfl, ?_⟩) (by assumption) ?_
  rotate_left
  · intro w hSw; (try dsimp only at hSw); go_simp; (try with_reducible rfl)
  (try simp only [Act.put, List.getElem_toArray, List.getElem_cons_succ, List.getElem_cons_zero, List.setIfInBounds_toArray, List.set_cons_zero, List.set_cons_succ])
  refine wpAnyZ_take (i := 1) (v := ?_) rfl (by kernel_rfl) (by kernel_rfl) (by kernel_rfl) (by kernel_rfl) (fun _ _ _ h => h) (Or.inl ⟨by first | kernel_rfl | rfl, ?_⟩) (by assumption) ?_
  rotate_left
  · intro w hSw; (try dsimp only at hSw); go_simp; (try with_reducible rfl)
  (try simp only [Act.put, List.getElem_toArray, List.getElem_cons_succ, List.getElem_cons_zero, List.setIfInBounds_toArray, List.set_cons_zero, List.set_cons_succ])
  refine wpAnyZ_take (i := 2) (v := ?_) rfl (by kernel_rfl) (by kernel_rfl) (by kernel_rfl) (by kernel_rfl) (fun _ _ _ h => h) (Or.inl ⟨by first | kernel_rfl | rfl, ?_⟩) (by assumption) ?_
  rotate_left
  · intro w hSw; (try dsimp only at hSw); go_simp; (try with_reducible rfl)
  (try simp only [Act.put, List.getElem_toArray, List.getElem_cons_succ, List.getElem_cons_zero, List.setIfInBounds_toArray, List.set_cons_zero, List.set_cons_succ])
  refine wpAnyZ_take (i := 3) (v := ?_) rfl (by kernel_rfl) (by kernel_rfl) (by kernel_rfl) (by kernel_rfl) (fun _ _ _ h => h) (Or.inl ⟨by first | kernel_rfl | rfl, ?_⟩) (by assumption) ?_
  rotate_left
  · intro w hSw; (try dsimp only at hSw); go_simp; (try with_reducible rfl)
  (try simp only [Act.put, List.getElem_toArray, List.getElem_cons_succ, List.getElem_cons_zero, List.setIfInBounds_toArray, List.set_cons_zero, List.set_cons_succ])
  refine wpAnyZ_take (i := 4) (v := ?_) rfl (by kernel_rfl) (by kernel_rfl) (by kernel_rfl) (by kernel_rfl) (fun _ _ _ h => h) (Or.inl ⟨by first | kernel_rfl | rfl, ?_⟩) (by assumption) ?_
  rotate_left
  · intro w hSw; (try dsimp only at hSw); go_simp; (try with_reducible rfl)
  (try simp only [Act.put, List.getElem_toArray, List.getElem_cons_succ, List.getElem_cons_zero, List.setIfInBounds_toArray, List.set_cons_zero, List.set_cons_succ])
  refine wpAnyZ_take (i := 5) (v := ?_) rfl (by kernel_rfl) (by kernel_rfl) (by kernel_rfl) (by kernel_rfl) (fun _ _ _ h => h) (Or.inl ⟨by first | kernel_rfl | rfl, ?_⟩) (by assumption) ?_
  rotate_left
  · intro w hSw; (try dsimp only at hSw); go_simp; (try with_reducible rfl)
  (try simp only [Act.put, List.getElem_toArray, List.getElem_cons_succ, List.getElem_cons_zero, List.setIfInBounds_toArray, List.set_cons_zero, List.set_cons_succ])
  refine wpAnyZ_take (i := 6) (v := ?_) rfl (by kernel_rfl) (by kernel_rfl) (by kernel_rfl) (by kernel_rfl) (fun _ _ _ h => h) (Or.inl ⟨by first | kernel_rfl | rfl, ?_⟩) (by assumption) ?_
  rotate_left
  · intro w hSw; (try dsimp only at hSw); go_simp; (try with_reducible rfl)
  (try simp only [Act.put, List.getElem_toArray, List.getElem_cons_succ, List.getElem_cons_zero, List.setIfInBounds_toArray, List.set_cons_zero, List.set_cons_succ])
  refine wpAnyZ_take (i := 7) (v := ?_) rfl (by kernel_rfl) (by kernel_rfl) (by kernel_rfl) (by kernel_rfl) (fun _ _ _ h => h) (Or.inl ⟨by first | kernel_rfl | rfl, ?_⟩) (by assumption) ?_
  rotate_left
  · intro w hSw; (try dsimp only at hSw); go_simp; (try with_reducible rfl)
  (try simp only [Act.put, List.getElem_toArray, List.getElem_cons_succ, List.getElem_cons_zero, List.setIfInBounds_toArray, List.set_cons_zero, List.set_cons_succ])
  refine wpAnyZ_take (i := 8) (v := ?_) rfl (by kernel_rfl) (by kernel_rfl) (by kernel_rfl) (by kernel_rfl) (fun _ _ _ h => h) (Or.inl ⟨by first | kernel_rfl | rfl, ?_⟩) (by assumption) ?_
  rotate_left
  · intro w hSw; (try dsimp only at hSw); go_simp; (try with_reducible rfl)
  (try simp only [Act.put, List.getElem_toArray, List.getElem_cons_succ, List.getElem_cons_zero, List.setIfInBounds_toArray, List.set_cons_zero, List.set_cons_succ])
  refine wpAnyZ_take (i := 9) (v := ?_) rfl (by kernel_rfl) (by kernel_rfl) (by kernel_rfl) (by kernel_rfl) (fun _ _ _ h => h) (Or.inl ⟨by first | kernel_rfl | rfl, ?_⟩) (by assumption) ?_
  rotate_left
  · intro w hSw; (try dsimp only at hSw); go_simp; (try with_reducible rfl)
  (try simp only [Act.put, List.getElem_toArray, List.getElem_cons_succ, List.getElem_cons_zero, List.setIfInBounds_toArray, List.set_cons_zero, List.set_cons_succ])
  refine wpAnyZ_take (i := 10) (v := ?_) rfl (by kernel_rfl) (by kernel_rfl) (by kernel_rfl) (by kernel_rfl) (fun _ _ _ h => h) (Or.inl ⟨by first | kernel_rfl | rfl, ?_⟩) (by assumption) ?_
  rotate_left
  · intro w hSw; (try dsimp only at hSw); go_simp; (try with_reducible rfl)
  (try simp only [Act.put, List.getElem_toArray, List.getElem_cons_succ, List.getElem_cons_zero, List.setIfInBounds_toArray, List.set_cons_zero, List.set_cons_succ])
  refine wpAnyZ_take (i := 11) (v := ?_) rfl (by kernel_rfl) (by kernel_rfl) (by kernel_rfl) (by kernel_rfl) (fun _ _ _ h => h) (Or.inl ⟨by first | kernel_rfl | rfl, ?_⟩) (by assumption) ?_
  rotate_left
  · intro w hSw; (try dsimp only at hSw); go_simp; (try with_reducible rfl)
  (try simp only [Act.put, List.getElem_toArray, List.getElem_cons_succ, List.getElem_cons_zero, List.setIfInBounds_toArray, List.set_cons_zero, List.set_cons_succ])
  refine wpAnyZ_take (i := 12) (v := ?_) rfl (by kernel_rfl) (by kernel_rfl) (by kernel_rfl) (by kernel_rfl) (fun _ _ _ h => h) (Or.inl ⟨by first | kernel_rfl | rfl, ?_⟩) (by assumption) ?_
  rotate_left
  · intro w hSw; (try dsimp only at hSw); go_simp; (try with_reducible rfl)
  (try simp only [Act.put, List.getElem_toArray, List.getElem_cons_succ, List.getElem_cons_zero, List.setIfInBounds_toArray, List.set_cons_zero, List.set_cons_succ])
  refine wpAnyZ_ready (i := 13) (by kernel_rfl) rfl (fun K hK => ?_)
  go_simp
  refine (dwrite_st w5.drew w5.drew.heap.size (A := none) (l := []) (c := 0) (Lib.hid (World.ownsRow_nil _ _ _ _)) (Nat.le_refl _) o hc HDW HTO (by simp only [List.length_nil]; omega) (by omega)).mono ?_
  rintro e w6 ⟨A6, c6, rfl, HO6, HB6, HN6⟩
  have HB6B : Hid (Below w5.heap.size w5 w6) := Lib.hid ⟨HB6.out.os, HB6.out.tape, HB6.out.output, HB6.out.size, fun k hk => HB6.out.block k hk (fun e => (by cases e))⟩
  refine hK.out _ _ ((HFB.out _ HB6B.out)) (fun hHeld => ?_)
  clear hK K
  (try simp only [Act.put, List.getElem_toArray, List.getElem_cons_succ, List.getElem_cons_zero, List.setIfInBounds_toArray, List.set_cons_zero, List.set_cons_succ])
  refine wpAnyZ_take (i := 14) (v := ?_) rfl (by kernel_rfl) (by kernel_rfl) (by kernel_rfl) (by kernel_rfl) (fun _ _ _ h => h) (Or.inl ⟨by first | kernel_rfl | rfl, ?_⟩) (by assumption) ?_
  rotate_left
  · intro w hSw; (try dsimp only at hSw); go_simp; (try with_reducible rfl)
  (try simp only [Act.put, List.getElem_toArray, List.getElem_cons_succ, List.getElem_cons_zero, List.setIfInBounds_toArray, List.set_cons_zero, List.set_cons_succ])
  refine wpAnyZ_last (i := 15) rfl (by kernel_rfl) (by kernel_rfl) rfl (fun K hK => ?_)
  go_simp
  refine hK.out _ _ ?_
  clear hK K hHeld
  go_wp2_with fail
  go_ret2
  have ho : w6.ownsRow w5.heap.size 5 1 (.slice A6 (wrB o.L s0.held).length c6) (wrB o.L s0.held).length ((wrB o.L s0.held).map (Value.int .u8)) := HO6.out
  have hbd : BelD (fun k => k = db) W w6 := HBD.out.trans (BelD.of_below HB6B.out)
  refine ⟨A6, c6, ha, hc, by rw [HW2.out]; rfl, Lib.hid ?_, Lib.hid hbd, Lib.hid fun V hV => ?_, Lib.hid ?_, Lib.hid (by rw [HW2.out]; exact Nat.le_trans (wrB_len o.L s0.held) (by rw [show o.L.length = o.l.length from List.length_map _]; exact hol))⟩
  · rw [HW2.out]
    have e : stI (s0, true) = 1 := by unfold stI; rw [HRJ.out]; rfl
    refine ⟨?_, HKD.out.tc, HKD.out.ok, HKD.out.sok, fun V hV => HKD.out.dep V ((hbd.mono fun k (e : k = db) => (e ▸ HKD.out.mem : D k)).trans hV), HKD.out.mem, fun k hk => Nat.lt_of_lt_of_le (HKD.out.lt k hk) hbd.size⟩
    rw [e]
    exact HBX.out.keep (HB6B.out.block _ HBX.out.lt)
  · rw [HW2.out]
    have h1 := wrB_len o.L s0.held
    have h2 : o.L.length = o.l.length := List.length_map _
    have h3 := HBD.out.size
    refine bytes_own ho (wrB_u8 _ _) (by omega) V fun k hk => ?_
    obtain ⟨q1, q2, -⟩ := own_ty ho hk
    exact hV.block k q2 (fun e => by have := HLT.out.2 k e; omega)
  · rw [HW2.out]
    exact own_mono ho HBD.out.size
end
end Go.Proofs.YtlmkokeapbleoaaGreat
end
section
namespace Go.Proofs.YtlmkokeapbleoaaGreat
open Go.RowKit
structure OpI where
  a : Option Addr
  c : Nat
  b : List Int
  cl : Bool
def opC (o : OpI) : List Value := [.slice o.a o.b.length o.c, .bool o.cl]
def OpW (o : OpI) (W : World) : Prop := BytesAt o.a o.b W
def OpsAt (A : Option Addr) (l : List OpI) (W : World) : Prop := RowsAt 2 opC OpW A l W
theorem OpW.stays : Stays OpW := fun i w w' h hb => BytesAt.below h hb
theorem OpsAt.below {A : Option Addr} {l : List OpI} {w w' : World} (h : OpsAt A l w) (hb : Below w.heap.size w w') : OpsAt A l w' := RowsAt.below h OpW.stays hb
theorem OpsAt.at_ {A : Option Addr} {l : List OpI} {W : World} (h : OpsAt A l W) {j : Nat} (hj : j < l.length) : ∃ b off o, A = some ⟨b, off, none⟩ ∧ l[j]? = some o ∧ OpW o W ∧ W.cell? ⟨b, off + j * 2, none⟩ = some (.slice o.a o.b.length o.c) ∧ W.cell? ⟨b, off + j * 2 + 1, none⟩ = some (.bool o.cl) := by
  obtain ⟨b, off, p, hA, hp, hc, hw⟩ := RowsAt.at_ h (fun _ => rfl) hj
  exact ⟨b, off, p, hA, hp, hw, hc 0 _ rfl, hc 1 _ rfl⟩
def sumO (l : List OpI) : Nat := (l.map fun o => min o.b.length 2000).sum
def GreatO (T : TabL) (l : List OpI) : Prop := ¬ SmallT T ∨ 60 < l.length ∨ 600 < sumO l
section
variable {w0 w : World} {F : World → Prop}
theorem great19_st (hK : Hid (St w0 w F)) (cs : Array Value) (T : TabI) (hC : TabC cs T) (ht : ∀ W, F W → TabW T W) {A : Option Addr} {l : List OpI} (hl : ∀ W, F W → OpsAt A l W) (c : Nat) (v : Bool) (hv : Hid (pB (GreatO T.L l) = v)) :
    Calls Tryz.prog 37 #[.agg cs, .slice A l.length c] w (RetV w0 (.bool v) F) := by
  have HT := Lib.hid ht
  have HLS := Lib.hid hl
  have HC := Lib.hid hC
  have HK := St.tbox hK cs
  have HI : Hid ((Tryz.prog.info? 49).map (·.size) = some cs.size) := Lib.hid (by rw [hC.size]; exact info_tabS)
  have hln := (HLS.out _ HK.out.now.2).ln
  obtain ⟨wa, hwa⟩ : ∃ z, w.alloc (.cells cs 49) = z := ⟨_, rfl⟩
  rw [hwa] at HK
  clear ht hl hC
  go_enter Tryz.func37, Tryz.ntmps37
  go_wp2_with fail
  (try rw [hwa])
  clear hwa
  go_loop [5, 6] (fun n i => ∃ (k m : Nat), k ≤ l.length ∧ k ≤ 61 ∧ i = .int .i64 k ∧ n = .int .i64 (m : Int) ∧ m ≤ 2000 * k ∧ Hid (m = sumO (l.take k))) (fun _ i => 62 - (intOf i).toNat)
  case atStart => exact ⟨0, 0, Nat.zero_le _, by omega, rfl, rfl, by omega, Lib.hid (by simp [sumO])⟩
  case round =>
  obtain ⟨k, m, hk, hk61, rfl, rfl, hm, HM⟩ := hrel
  by_cases hgo : k < l.length ∧ k ≤ 60
  · obtain ⟨hlt, h60⟩ := hgo
    obtain ⟨b, off, o, rfl, hx, hw, p0, p1⟩ := (HLS.out _ HK.out.now.2).at_ hlt
    obtain ⟨q, hq⟩ : ∃ q : Nat, min o.b.length 2000 = q := ⟨_, rfl⟩
    have hqi : min (o.b.length : Int) 2000 = (q : Int) := by omega
    have hq2 : q ≤ 2000 := by omega
    have hol := hw.ln
    have HM2 : Hid (m + q = sumO (l.take (k + 1))) := Lib.hid (by
      unfold sumO
      rw [sum_take (fun o : OpI => min o.b.length 2000) hx, hq, HM.out]; rfl)
    have h60i : (k : Int) ≤ 60 := by omega
    have hlti : (k : Int) < (l.length : Int) := by omega
    clear hx hw hq
    go_wp2_with fail
    go_round
    case rel => exact ⟨k + 1, m + q, by omega, by omega, by go_num, by go_num, by omega, HM2⟩
    case measure => simp [intOf]; omega
  obtain ⟨s, hs⟩ : ∃ s, pB (SmallT T.L) = s := ⟨_, rfl⟩
  have HSS := Lib.hid hs
  have HV : Hid (v = if s = false then true else if 60 < l.length then true else decide (600 < m)) := Lib.hid (by
    rw [← hv.out]
    rcases s with _ | _
    · rw [if_pos rfl]
      exact pB_true (.inl fun h => by rw [pB_true h] at hs; cases hs)
    · rw [if_neg (by simp)]
      by_cases h6 : 60 < l.length
      · rw [if_pos h6]; exact pB_true (.inr (.inl h6))
      · rw [if_neg h6]
        have hkl : k = l.length := by omega
        have hmm : m = sumO l := by rw [HM.out, hkl, List.take_length]
        by_cases h7 : 600 < m
        · rw [decide_eq_true h7]; exact pB_true (.inr (.inr (by omega)))
        · rw [decide_eq_false h7]
          exact pB_false fun h => by
            rcases h with h | h | h
            · exact h (pB_iff.1 hs)
            · exact h6 h
            · omega)
  have HGO : Hid (¬ (k < l.length ∧ k ≤ 60)) := Lib.hid hgo
  clear hs hgo HM
  by_cases h1 : k < l.length
  · have h2 : ¬ k ≤ 60 := fun h2 => HGO.out ⟨h1, h2⟩
    obtain rfl : k = 61 := by omega
    have h1i : ((61 : Nat) : Int) < (l.length : Int) := by omega
    have h6 : (60 : Int) < (l.length : Int) := by omega
    obtain rfl : v = true := (by rw [HV.out, if_pos (show 60 < l.length by omega)]; simp)
    clear h2
    go_wp2_with (first
      | (refine wpList_load_row rfl 49 _ rfl w.heap.size rfl _ cs _ _ HK.out.now.1 Tryz.underlying49 rfl HI.out ?_)
      | (go_at_call 32; refine (Small_st HK cs T HC.out (fun _ h => HT.out _ h.2) s HSS).mono ?_; rintro e w2 ⟨rfl, HK2⟩))
    all_goals
      go_ret
      exact ⟨rfl, Lib.hid (HK2.out.weaken fun _ h => h.2)⟩
  obtain rfl : k = l.length := by omega
  have hd : decide (l.length < l.length) = false := by simp
  rcases s with _ | _
  · obtain rfl : v = true := (by rw [HV.out]; rfl)
    go_wp2_with (first
      | (refine wpList_load_row rfl 49 _ rfl w.heap.size rfl _ cs _ _ HK.out.now.1 Tryz.underlying49 rfl HI.out ?_)
      | (go_at_call 32; refine (Small_st HK cs T HC.out (fun _ h => HT.out _ h.2) false HSS).mono ?_; rintro e w2 ⟨rfl, HK2⟩))
    go_ret
    exact ⟨rfl, Lib.hid (HK2.out.weaken fun _ h => h.2)⟩
  by_cases h6 : 60 < l.length
  · obtain rfl : v = true := (by rw [HV.out, if_neg (by simp), if_pos h6])
    have h6i : (60 : Int) < (l.length : Int) := by omega
    go_wp2_with (first
      | (refine wpList_load_row rfl 49 _ rfl w.heap.size rfl _ cs _ _ HK.out.now.1 Tryz.underlying49 rfl HI.out ?_)
      | (go_at_call 32; refine (Small_st HK cs T HC.out (fun _ h => HT.out _ h.2) true HSS).mono ?_; rintro e w2 ⟨rfl, HK2⟩))
    go_ret
    exact ⟨rfl, Lib.hid (HK2.out.weaken fun _ h => h.2)⟩
  have hg6 : decide ((60 : Int) < (l.length : Int)) = false := by simp; omega
  have h6i : ¬ (60 : Int) < (l.length : Int) := by omega
  by_cases h7 : 600 < m
  · obtain rfl : v = true := (by rw [HV.out, if_neg (by simp), if_neg h6, decide_eq_true h7])
    have h7i : (600 : Int) < (m : Int) := by omega
    go_wp2_with (first
      | (refine wpList_load_row rfl 49 _ rfl w.heap.size rfl _ cs _ _ HK.out.now.1 Tryz.underlying49 rfl HI.out ?_)
      | (go_at_call 32; refine (Small_st HK cs T HC.out (fun _ h => HT.out _ h.2) true HSS).mono ?_; rintro e w2 ⟨rfl, HK2⟩))
    go_ret
    exact ⟨rfl, Lib.hid (HK2.out.weaken fun _ h => h.2)⟩
  · obtain rfl : v = false := (by rw [HV.out, if_neg (by simp), if_neg h6, decide_eq_false h7])
    have hg7 : decide ((600 : Int) < (m : Int)) = false := by simp; omega
    have h7i : ¬ (600 : Int) < (m : Int) := by omega
    go_wp2_with (first
      | (refine wpList_load_row rfl 49 _ rfl w.heap.size rfl _ cs _ _ HK.out.now.1 Tryz.underlying49 rfl HI.out ?_)
      | (go_at_call 32; refine (Small_st HK cs T HC.out (fun _ h => HT.out _ h.2) true HSS).mono ?_; rintro e w2 ⟨rfl, HK2⟩))
    go_ret
    exact ⟨rfl, Lib.hid (HK2.out.weaken fun _ h => h.2)⟩
end
end Go.Proofs.YtlmkokeapbleoaaGreat
end
section
namespace Go.Proofs.YtlmkokeapbleoaaGreat
open Go.RowKit
end Go.Proofs.YtlmkokeapbleoaaGreat
end
section
namespace Go.Proofs.YtlmkokeapbleoaaGreat
open Go.RowKit
def front : List Int → List Int → Nat
  | x :: xs, y :: ys => if x = y then front xs ys + 1 else 0
  | _, _ => 0
theorem front_nil_left (ys : List Int) : front [] ys = 0 := by unfold front; rfl
theorem front_nil_right (xs : List Int) : front xs [] = 0 := by cases xs <;> (unfold front; rfl)
theorem front_cons (x y : Int) (xs ys : List Int) : front (x :: xs) (y :: ys) = if x = y then front xs ys + 1 else 0 := by rw [front]
def Alk (xs ys : List Int) (k : Nat) : Prop := front xs ys = k + front (xs.drop k) (ys.drop k)
theorem Alk.zero (xs ys : List Int) : Alk xs ys 0 := by simp [Alk]
theorem Alk.step {xs ys : List Int} {k : Nat} {x : Int} (h : Alk xs ys k) (hx : xs[k]? = some x) (hy : ys[k]? = some x) : Alk xs ys (k + 1) := by
  unfold Alk at *
  rw [h, drop_cons? hx, drop_cons? hy, front_cons, if_pos rfl]; omega
theorem Alk.left {xs ys : List Int} {k : Nat} (h : Alk xs ys k) (hk : xs.length ≤ k) : front xs ys = k := by
  unfold Alk at *
  rw [h, List.drop_of_length_le hk, front_nil_left]; rfl
theorem Alk.right {xs ys : List Int} {k : Nat} (h : Alk xs ys k) (hk : ys.length ≤ k) : front xs ys = k := by
  unfold Alk at *
  rw [h, List.drop_of_length_le hk, front_nil_right]; rfl
end Go.Proofs.YtlmkokeapbleoaaGreat
end
section
namespace Go.Proofs.YtlmkokeapbleoaaGreat
open Go.RowKit
def decs (s : ByteArray) : Nat → Nat → List (Nat × Nat)
  | 0, _ => []
  | f + 1, pos => if pos < s.size then Utf8.decode s pos :: decs s f (pos + (Utf8.decode s pos).2) else []
def runesAt (s : ByteArray) (pos : Nat) : List (Nat × Nat) := decs s (s.size - pos) pos
def runes (s : ByteArray) : List Int := (runesAt s 0).map fun d => (d.1 : Int)
end Go.Proofs.YtlmkokeapbleoaaGreat
end
section
namespace Go.Proofs.YtlmkokeapbleoaaGreat
open Go.RowKit
end Go.Proofs.YtlmkokeapbleoaaGreat
end
section
namespace Go.Proofs.YtlmkokeapbleoaaGreat
open Go.RowKit
end Go.Proofs.YtlmkokeapbleoaaGreat
end
section
namespace Go.Proofs.YtlmkokeapbleoaaGreat
open Go.RowKit
theorem run_conv_str {P : Program} (w : World) (src e : TypeId) (hs : P.underlying src = some (.slice e)) (he : P.underlying e = some (.int .u8)) (A : Option Addr) (n c : Nat) (xs : List Int) (h : Ints .u8 w A n xs) (dst : TypeId) (hd : P.underlying dst = some .string) :
    (convert src dst (.slice A n c)).run P w = .ok (.string (strOfNums xs)) w := by
  rcases Nat.eq_zero_or_pos n with h0 | h0
  · subst h0
    have hx : xs = [] := List.eq_nil_of_length_eq_zero h.len
    subst hx
    cases A with
    | none =>
      rw [run_convert_bytes_nil w src e hs he 0 c dst hd]
      rfl
    | some a =>
      have hl : (loadCells a 0).run P w = .ok (([] : List Int).map (Value.int .u8)).toArray w := by
        have := run_loadCells_list (P := P) w a [] (fun j v hj => by simp at hj)
        simpa using this
      rw [run_convert_bytes_string w src dst e _ 0 c hs he hd, run_bytesToString w _ 0 c [] hl, foldl_push_bytes]
      rfl
  · obtain ⟨b, off, x0, rfl, _, _⟩ := h.at_ h0
    refine run_convert_bytes_arg w src e hs he b off n c xs h.len (fun i hi => ?_) dst hd
    obtain ⟨b', off', x, hA, hx, hc⟩ := h.at_ hi
    cases hA
    rw [hc, List.getD_eq_getElem?_getD, hx]; rfl
end Go.Proofs.YtlmkokeapbleoaaGreat
end
section
namespace Go.Proofs.YtlmkokeapbleoaaGreat
open Go.RowKit Go.Shelf
noncomputable def opS (T : TabL) (s : DrvS) (o : OpI) : DrvS × List Int × Int := if o.cl = true then clS T s else wrS T s o.b
noncomputable def playS (T : TabL) (s : DrvS) (l : List OpI) : DrvS × List Int := l.foldl (fun q o => ((opS T q.1 o).1, q.2 ++ (opS T q.1 o).2.1 ++ [0, (opS T q.1 o).2.2])) (s, [])
theorem playS_take {T : TabL} {s : DrvS} {l : List OpI} {k : Nat} {o : OpI} (h : l[k]? = some o) : playS T s (l.take (k + 1)) = ((opS T (playS T s (l.take k)).1 o).1, (playS T s (l.take k)).2 ++ (opS T (playS T s (l.take k)).1 o).2.1 ++ [0, (opS T (playS T s (l.take k)).1 o).2.2]) := by
  rw [take_snoc? h]
  unfold playS
  rw [List.foldl_append]; rfl
theorem wrS_err (T : TabL) (s : DrvS) (b : List Int) : (wrS T s b).2.2 = 0 ∨ (wrS T s b).2.2 = 7 ∨ (wrS T s b).2.2 = 8 := by
  unfold wrS
  split
  · show errI s = 0 ∨ errI s = 7 ∨ errI s = 8
    unfold errI
    split
    · simp
    · split <;> simp
  · show (if (Drv.go (drvM T) s.1 b).1.rej = true then (7 : Int) else 0) = 0 ∨ _ ∨ _
    split <;> simp
theorem clS_err (T : TabL) (s : DrvS) : (clS T s).2.2 = 0 ∨ (clS T s).2.2 = 7 ∨ (clS T s).2.2 = 8 := by
  unfold clS
  split
  · show errI s = 0 ∨ errI s = 7 ∨ errI s = 8
    unfold errI
    split
    · simp
    · split <;> simp
  · split <;> simp
theorem strOf_append (a b : List Int) : strOfNums a ++ strOfNums b = strOfNums (a ++ b) := by
  apply ByteArray.ext
  simp [strOfNums]
def RetPl (D : Nat → Prop) (db : Nat) (cs : Array Value) (T : TabI) (s : DrvS) (l : List OpI) (W : World) (e : Ending) (W' : World) : Prop :=
  ∃ ha' hc', e = .returned (.string (strOfNums (playS T.L s l).2)) ∧ Hid (DrvK D db cs T (playS T.L s l).1 ha' hc' W') ∧ Hid (BelD (fun k => k = db) W W')
section
variable {D : Nat → Prop} {db : Nat} {cs : Array Value} {T : TabI} {s : DrvS} {ha : Option Addr} {hc : Nat} {W : World}
theorem plays_st (HKD : Hid (DrvK D db cs T s ha hc W)) {A : Option Addr} {l : List OpI} (c : Nat) (hL : Hid (∀ V, BelD D W V → OpsAt A l V)) (h60 : l.length ≤ 60) (hb : Hid (∀ o ∈ l, o.b.length ≤ 600)) :
    Calls Tryz.prog 46 #[.pointer (some ⟨db, 0, none⟩), .slice A l.length c] W (RetPl D db cs T s l W) := by
  have hln := (hL.out W (BelD.refl _ _)).ln
  go_enter Tryz.func46, Tryz.ntmps46
  go_wp2_with fail
  go_loopw [5, 6] (fun sv iv wr => ∃ (k : Nat) (ha : Option Addr) (hc : Nat), k ≤ l.length ∧ iv = .int .i64 k ∧ sv = .string (strOfNums (playS T.L s (l.take k)).2) ∧ (playS T.L s (l.take k)).2.length ≤ k * 262402 ∧ Hid (DrvK D db cs T (playS T.L s (l.take k)).1 ha hc wr) ∧ Hid (BelD (fun k => k = db) W wr)) (fun _ iv _ => l.length - (intOf iv).toNat)
  case atStart => exact ⟨0, ha, hc, Nat.zero_le _, rfl, rfl, Nat.zero_le _, HKD, Lib.hid (BelD.refl _ _)⟩
  case round =>
  obtain ⟨k, ha1, hc1, hk, rfl, rfl, hal, HDr, HBW⟩ := hrel
  by_cases hlt : k < l.length
  case neg =>
    obtain rfl : k = l.length := by omega
    have hd : decide (l.length < l.length) = false := by simp
    rw [List.take_length] at HDr hal ⊢
    go_wp2_with fail
    go_ret
    exact ⟨ha1, hc1, rfl, HDr, HBW⟩
  have HBWD : Hid (BelD D W wr) := Lib.hid (HBW.out.mono fun k (e : k = db) => (e ▸ HKD.out.mem : D k))
  obtain ⟨b, off, o, rfl, hx, hw, p0, p1⟩ := (hL.out wr HBWD.out).at_ hlt
  have hlti : (k : Int) < (l.length : Int) := by omega
  obtain ⟨⟨s1, acc⟩, hps⟩ : ∃ z, playS T.L s (l.take k) = z := ⟨_, rfl⟩
  have HPS := Lib.hid hps
  rw [hps] at HDr hal ⊢
  simp only at HDr hal ⊢
  have HX := Lib.hid hx
  have hob : o.b.length ≤ 600 := hb.out o (List.mem_of_getElem? hx)
  clear hx hw hps
  rcases hcl : o.cl with _ | _
  · rw [hcl] at p1
    have HOB : Hid (∀ V, BelD D wr V → BytesAt o.a o.b V) := Lib.hid fun V hV => (hL.out V (HBWD.out.trans hV)).it _ (List.mem_of_getElem? HX.out)
    obtain ⟨⟨s2, o2, e2⟩, hwr⟩ : ∃ z, wrS T.L s1 o.b = z := ⟨_, rfl⟩
    have HWR := Lib.hid hwr
    have hse : opS T.L s1 o = (s2, o2, e2) := by unfold opS; rw [if_neg (by rw [hcl]; simp)]; exact hwr
    have he2 : e2 = 0 ∨ e2 = 7 ∨ e2 = 8 := by have h := wrS_err T.L s1 o.b; rw [hwr] at h; exact h
    clear hwr
    go_wp2_with fail
    refine (Write_st HDr o.c HOB (by omega)).mono ?_
    rintro e w6 ⟨A6, c6, ha6, hc6, rfl, HK6, HB6, HY6, HR6, HL6⟩
    rw [HWR.out] at HK6 HY6 HR6 HL6
    rw [HWR.out]
    simp only at HK6 HY6 HR6 HL6 ⊢
    have HTK : Hid (playS T.L s (l.take (k + 1)) = (s2, acc ++ o2 ++ [0, e2])) := Lib.hid (by rw [playS_take HX.out, HPS.out]; show ((opS T.L s1 o).1, acc ++ (opS T.L s1 o).2.1 ++ [0, (opS T.L s1 o).2.2]) = _; rw [hse])
    have hcv := run_conv_str (P := Tryz.prog) w6 79 5 Tryz.underlying79 Tryz.underlying5 A6 o2.length c6 o2 (Sl.of_own HR6.out) 9 Tryz.underlying9
    have hwe : IntKind.u8.wrap e2 = e2 := by rcases he2 with rfl | rfl | rfl <;> rfl
    obtain ⟨w7, hw7⟩ : ∃ z, w6.alloc (.cells #[.int .u8 0, .int .u8 e2] 5) = z := ⟨_, rfl⟩
    have hx7 : w7.heap[w6.heap.size]? = some (.cells #[.int .u8 0, .int .u8 e2] 5 (0, 0)) := by rw [← hw7]; exact heap_alloc_new w6 _
    have HB7 : Hid (Below w6.heap.size w6 w7) := Lib.hid (by rw [← hw7]; exact (Below.refl _ _).alloc (Nat.le_refl _) _)
    have hcv2 := run_conv_str (P := Tryz.prog) w7 79 5 Tryz.underlying79 Tryz.underlying5 (some ⟨w6.heap.size, 0, none⟩) 2 2 [0, e2] ⟨rfl, fun _ => ⟨_, _, rfl, fun j u hu => by simp only [World.cell?, hx7]; simpa using hu⟩⟩ 9 Tryz.underlying9
    have hsa : (strOfNums acc ++ strOfNums o2) ++ strOfNums [0, e2] = strOfNums (acc ++ o2 ++ [0, e2]) := by rw [strOf_append, strOf_append]
    clear hx7 hse he2
    have ho2 := HL6.out
    have hz1 : ¬ 9223372036854775807 < (strOfNums acc).size + (strOfNums o2).size := by rw [strOfNums_size, strOfNums_size]; have : k * 262402 ≤ 60 * 262402 := Nat.mul_le_mul_right _ (by omega); omega
    have hz2 : ¬ 9223372036854775807 < (strOfNums acc).size + (strOfNums o2).size + (strOfNums [0, e2]).size := by rw [strOfNums_size, strOfNums_size, strOfNums_size]; have : k * 262402 ≤ 60 * 262402 := Nat.mul_le_mul_right _ (by omega); simp only [List.length_cons, List.length_nil]; omega
    go_wp2_with fail
    refine ⟨⟨k + 1, ha6, hc6, by omega, by go_num, by rw [HTK.out]; simp, ?_, by rw [HTK.out]; exact Lib.hid (HK6.out.step (BelD.of_below HB7.out) (HB7.out.block _ HK6.out.box.lt)), Lib.hid ((HBW.out.trans HB6.out).trans (BelD.of_below HB7.out))⟩, by simp [intOf]; omega⟩
    rw [HTK.out]
    simp only [List.length_append, List.length_cons, List.length_nil, Nat.add_mul]
    omega
  · rw [hcl] at p1
    obtain ⟨⟨s2, o2, e2⟩, hwr⟩ : ∃ z, clS T.L s1 = z := ⟨_, rfl⟩
    have HWR := Lib.hid hwr
    have hse : opS T.L s1 o = (s2, o2, e2) := by unfold opS; rw [if_pos hcl]; exact hwr
    have he2 : e2 = 0 ∨ e2 = 7 ∨ e2 = 8 := by have h := clS_err T.L s1; rw [hwr] at h; exact h
    clear hwr
    go_wp2_with fail
    refine (Close_st HDr).mono ?_
    rintro e w6 ⟨A6, c6, ha6, hc6, rfl, HK6, HB6, HY6, HR6, HL6⟩
    rw [HWR.out] at HK6 HY6 HR6 HL6
    rw [HWR.out]
    simp only at HK6 HY6 HR6 HL6 ⊢
    have HTK : Hid (playS T.L s (l.take (k + 1)) = (s2, acc ++ o2 ++ [0, e2])) := Lib.hid (by rw [playS_take HX.out, HPS.out]; show ((opS T.L s1 o).1, acc ++ (opS T.L s1 o).2.1 ++ [0, (opS T.L s1 o).2.2]) = _; rw [hse])
    have hcv := run_conv_str (P := Tryz.prog) w6 79 5 Tryz.underlying79 Tryz.underlying5 A6 o2.length c6 o2 (Sl.of_own HR6.out) 9 Tryz.underlying9
    have hwe : IntKind.u8.wrap e2 = e2 := by rcases he2 with rfl | rfl | rfl <;> rfl
    obtain ⟨w7, hw7⟩ : ∃ z, w6.alloc (.cells #[.int .u8 0, .int .u8 e2] 5) = z := ⟨_, rfl⟩
    have hx7 : w7.heap[w6.heap.size]? = some (.cells #[.int .u8 0, .int .u8 e2] 5 (0, 0)) := by rw [← hw7]; exact heap_alloc_new w6 _
    have HB7 : Hid (Below w6.heap.size w6 w7) := Lib.hid (by rw [← hw7]; exact (Below.refl _ _).alloc (Nat.le_refl _) _)
    have hcv2 := run_conv_str (P := Tryz.prog) w7 79 5 Tryz.underlying79 Tryz.underlying5 (some ⟨w6.heap.size, 0, none⟩) 2 2 [0, e2] ⟨rfl, fun _ => ⟨_, _, rfl, fun j u hu => by simp only [World.cell?, hx7]; simpa using hu⟩⟩ 9 Tryz.underlying9
    have hsa : (strOfNums acc ++ strOfNums o2) ++ strOfNums [0, e2] = strOfNums (acc ++ o2 ++ [0, e2]) := by rw [strOf_append, strOf_append]
    clear hx7 hse he2
    have ho2 := HL6.out
    have hz1 : ¬ 9223372036854775807 < (strOfNums acc).size + (strOfNums o2).size := by rw [strOfNums_size, strOfNums_size]; have : k * 262402 ≤ 60 * 262402 := Nat.mul_le_mul_right _ (by omega); omega
    have hz2 : ¬ 9223372036854775807 < (strOfNums acc).size + (strOfNums o2).size + (strOfNums [0, e2]).size := by rw [strOfNums_size, strOfNums_size, strOfNums_size]; have : k * 262402 ≤ 60 * 262402 := Nat.mul_le_mul_right _ (by omega); simp only [List.length_cons, List.length_nil]; omega
    go_wp2_with fail
    refine ⟨⟨k + 1, ha6, hc6, by omega, by go_num, by rw [HTK.out]; simp, ?_, by rw [HTK.out]; exact Lib.hid (HK6.out.step (BelD.of_below HB7.out) (HB7.out.block _ HK6.out.box.lt)), Lib.hid ((HBW.out.trans HB6.out).trans (BelD.of_below HB7.out))⟩, by simp [intOf]; omega⟩
    rw [HTK.out]
    simp only [List.length_append, List.length_cons, List.length_nil, Nat.add_mul]
    omega
end
end Go.Proofs.YtlmkokeapbleoaaGreat
end
section
namespace Go.Proofs.YtlmkokeapbleoaaGreat
open Go.RowKit Go.Shelf
def s00 : DrvS := (⟨0, [], false⟩, false)
theorem drvNew {w w' : World} {db : Nat} {cs' : Array Value} {T' : TabI} (tc : TabC cs' T') (ok : TabOk T'.L) (hb : DrvB db cs' 0 none 0 [] 0 w') (hd : Dep (fun k => w.heap.size ≤ k ∧ k ≠ db) w' (TabW T')) :
    DrvK (fun k => k = db) db cs' T' s00 none 0 w' :=
  ⟨hb, tc, ok, ⟨(drv_right ok).pos, by simp [s00, (drv_right ok).zero], fun h => (by cases h)⟩, fun V hV => ⟨hd V fun k hk hl => hV.block k hl hk.2, BytesAt.nil_ _ _⟩, rfl, fun k hk => by rw [hk]; exact hb.lt⟩
end Go.Proofs.YtlmkokeapbleoaaGreat
end
section
namespace Go.Proofs.YtlmkokeapbleoaaGreat
open Go.RowKit
section
variable {D D' : Nat → Prop} {db : Nat} {cs : Array Value} {T : TabI} {s : DrvS} {ha : Option Addr} {hc : Nat} {W W' : World}
theorem DrvK.wide (h : DrvK D db cs T s ha hc W) (hb : Below W.heap.size W W') (hD : ∀ k, D k → D' k) (hn : ∀ k, D' k → D k ∨ W.heap.size ≤ k) (hlt : ∀ k, D' k → k < W'.heap.size) : DrvK D' db cs T s ha hc W' :=
  ⟨h.box.keep (hb.block _ h.box.lt), h.tc, h.ok, h.sok, fun V hV => h.dep V ⟨hV.os.trans hb.os, hV.tape.trans hb.tape, hV.output.trans hb.output, Nat.le_trans hb.size hV.size, fun k hk hx => (hV.block k (Nat.lt_of_lt_of_le hk hb.size) (fun e => by
    rcases hn k e with e | e
    · exact hx e
    · omega)).trans (hb.block k hk)⟩, hD _ h.mem, hlt⟩
theorem DrvK.less (h : DrvK D db cs T s ha hc W) (hD : ∀ k, D' k → D k) (hm : D' db) : DrvK D' db cs T s ha hc W :=
  ⟨h.box, h.tc, h.ok, h.sok, fun V hV => h.dep V (hV.mono hD), hm, fun k hk => h.lt k (hD k hk)⟩
theorem DrvK.moved {A A' : Option Addr} (h : DrvK (Dx D A) db cs T s ha hc W) (hb : BelD (OwnR A) W W') (hn : Newer (ownA A) (ownA A') W.heap.size) (hD : D db) (hx : ownA A ≠ some db) (hA : ∀ k, ownA A' = some k → k < W'.heap.size) : DrvK (Dx D A') db cs T s ha hc W' :=
  ⟨h.box.keep (hb.block _ h.box.lt hx), h.tc, h.ok, h.sok, fun V hV => h.dep V (hb.out hn hV), .inl hD, fun k hk => by
    rcases hk with hk | hk
    · exact Nat.lt_of_lt_of_le (h.lt k (.inl hk)) hb.size
    · exact hA k hk⟩
end
theorem drvNewD {D : Nat → Prop} {w w' : World} {db : Nat} {cs' : Array Value} {T' : TabI} (tc : TabC cs' T') (ok : TabOk T'.L) (hb : DrvB db cs' 0 none 0 [] 0 w') (hd : Dep (fun k => w.heap.size ≤ k ∧ k ≠ db) w' (TabW T')) (hD : ∀ k, D k → k = db ∨ k < w.heap.size) (hm : D db) (hlt : ∀ k, D k → k < w'.heap.size) :
    DrvK D db cs' T' s00 none 0 w' :=
  ⟨hb, tc, ok, ⟨(drv_right ok).pos, by simp [s00, (drv_right ok).zero], fun h => (by cases h)⟩, fun V hV => ⟨hd V fun k hk hl => hV.block k hl fun e => by
    rcases hD k e with e | e
    · exact hk.2 e
    · omega, BytesAt.nil_ _ _⟩, hm, hlt⟩
theorem BytesAt.cut {b off : Nat} {l : List Int} {W : World} (h : BytesAt (some ⟨b, off, none⟩) l W) (i j : Nat) : BytesAt (some ⟨b, off + i, none⟩) ((l.take j).drop i) W := by
  have h2 : BytesAt (some ⟨b, off, none⟩) (l.take j) W := by
    refine ⟨⟨by rw [← List.map_eq_flatMap, List.length_map, Nat.mul_one], fun hn => ⟨b, off, rfl, fun k u hu => ?_⟩⟩, fun x hx => h.it x (List.mem_of_mem_take hx), by rw [List.length_take]; have := h.ln; omega⟩
    have hl : 0 < l.length := by rw [List.length_take] at hn; omega
    obtain ⟨b', off', e, hc⟩ := h.sl.2 hl
    injection e with e; injection e with e1 e2; subst e1 e2
    refine hc k u ?_
    rw [← List.map_eq_flatMap] at hu ⊢
    rw [List.getElem?_map, List.getElem?_take] at hu
    rw [List.getElem?_map]
    split at hu
    · exact hu
    · simp at hu
  exact h2.tail i
end Go.Proofs.YtlmkokeapbleoaaGreat
end
section
namespace Go.Proofs.YtlmkokeapbleoaaGreat
open Go.RowKit
theorem run_loadVar_part {P : Program} (w : World) (g off : Nat) (ty : TypeId) (cs : Array Value) (d : TypeDesc) (hg : ∀ j v, cs[j]? = some v → w.cell? ⟨g, off + j, none⟩ = some v)
    (hu : P.underlying ty = some d) (hd : (match d with | .struct _ | .array _ _ => true | _ => false) = true) (hi : (P.info? ty).map (·.size) = some cs.size) :
    (loadVar ty ⟨g, off, none⟩).run P w = .ok (.agg cs) w := by
  have hl : (loadCells ⟨g, off, none⟩ cs.toList.length).run P w = .ok cs.toList.toArray w :=
    run_loadCells_list (P := P) w ⟨g, off, none⟩ cs.toList (fun j v hv => by
      have hadd : (⟨g, off, none⟩ : Addr).add j = ⟨g, off + j, none⟩ := by unfold Addr.add; split <;> simp_all
      rw [hadd]
      exact hg j v (by simpa using hv))
  cases hq : P.info? ty with
  | none => simp [hq] at hi
  | some i =>
    have hs : i.size = cs.size := by simpa [hq] using hi
    have hagg : (isAgg ty).run P w = .ok true w := by
      unfold isAgg
      rw [Sem.run_bind, run_underlying hu w]
      cases d <;> simp_all
    simp only [Array.length_toList, Array.toArray_toList] at hl
    simp [loadVar, Sem.run_bind, hagg, sizeOf, typeInfo, hq, hs, hl]
theorem exec_load_part {P : Program} {op : Oper} {a : Act} {w : World} (ty : TypeId) (x : Operand) (ho : op.op = .load ty x)
    (g off : Nat) (hx : a.eval x = .pointer (some ⟨g, off, none⟩)) (cs : Array Value) (d : TypeDesc) (hS : ∀ j v, cs[j]? = some v → w.cell? ⟨g, off + j, none⟩ = some v)
    (hu : P.underlying ty = some d) (hd : (match d with | .struct _ | .array _ _ => true | _ => false) = true) (hi : (P.info? ty).map (·.size) = some cs.size) : (execOp a.eval op).run P w = .ok (.value (.agg cs)) w := by
  unfold execOp
  simp only [ho, hx, Instr.loadAt, Instr.sureAddr, Sem.run_bind, Sem.run_pure, Result.andThen_ok, run_loadVar_part w g off ty cs d hS hu hd hi]
end Go.Proofs.YtlmkokeapbleoaaGreat
end
section
namespace Go.Proofs.YtlmkokeapbleoaaGreat
open Go.RowKit Go.Shelf
theorem exec_build {P : Program} {op : Oper} {a : Act} {w : World} (t : TypeId) (parts : Array (Nat × Operand)) (ho : op.op = .build t parts) (l : List (Nat × Value)) (hl : (parts.map fun (i, x) => (i, a.eval x)).toList = l) (cs : Array Value)
    (hz : P.built t l = some cs) : (execOp a.eval op).run P w = .ok (.value (.agg cs)) w := by
  subst hl
  unfold execOp
  simp only [ho, Sem.run_bind, run_build w t _ cs hz, Result.andThen_ok, Sem.run_pure]
def RetCp (D : Nat → Prop) (db : Nat) (cs : Array Value) (T : TabI) (s : DrvS) (ha : Option Addr) (hc : Nat) (W : World) (e : Ending) (W' : World) : Prop :=
  ∃ dk ha' hc', e = .returned (.pointer (some ⟨dk, 0, none⟩)) ∧ W.heap.size ≤ dk ∧ Hid (DrvK (fun k => D k ∨ k = dk) db cs T s ha hc W') ∧ Hid (DrvK (fun k => D k ∨ k = dk) dk cs T s ha' hc' W') ∧ Hid (Below W.heap.size W W')
section
variable {D : Nat → Prop} {db : Nat} {cs : Array Value} {T : TabI} {s : DrvS} {ha : Option Addr} {hc : Nat} {W : World}
theorem Copy_st (HKD : Hid (DrvK D db cs T s ha hc W)) :
    Calls Tryz.prog 47 #[.pointer (some ⟨db, 0, none⟩)] W (RetCp D db cs T s ha hc W) := by
  have hs := HKD.out.tc.size
  have HS := Lib.hid hs
  have HI : Hid ((Tryz.prog.info? 49).map (·.size) = some cs.size) := Lib.hid (by rw [hs]; exact info_tabS)
  obtain ⟨st, hst⟩ : ∃ z, stI s = z := ⟨_, rfl⟩
  obtain ⟨nd, hnd⟩ : ∃ z : Nat, s.1.node = z := ⟨_, rfl⟩
  obtain ⟨hl, hhl⟩ : ∃ z, s.1.held = z := ⟨_, rfl⟩
  have hbx := HKD.out.box
  rw [hst, hnd, hhl] at hbx
  have HBX := Lib.hid hbx
  have HST := Lib.hid hst
  have HND := Lib.hid hnd
  have HHL := Lib.hid hhl
  have hl4 : hl.length ≤ 4 := by rw [← hhl]; exact drv_len HKD.out.ok HKD.out.sok
  have HBY : Hid (∀ V, BelD D W V → BytesAt ha hl V) := Lib.hid fun V hV => by rw [← hhl]; exact (HKD.out.dep V hV).2
  have HFA : Hid (∀ V, Below W.heap.size W V → Hid (∀ j v, cs[j]? = some v → V.cell? ⟨db, 0 + j, none⟩ = some v) ∧ V.cell? ⟨db, 259, none⟩ = some (.int .i64 nd) ∧ V.cell? ⟨db, 260, none⟩ = some (.slice ha hl.length hc) ∧ V.cell? ⟨db, 261, none⟩ = some (.int .i64 st)) := Lib.hid fun V hV => by
    have b2 := HBX.out.keep (hV.block _ HBX.out.lt)
    exact ⟨Lib.hid fun j v hv => by rw [Nat.zero_add]; exact b2.cell (drvC_lo hv), b2.cNode hs, b2.cHeld hs, b2.cState hs⟩
  clear hs hst hnd hhl hbx
  go_enter Tryz.func47, Tryz.ntmps47
  go_wp2_with fail
  refine wp_region_Z 19 (by kernel_rfl) (fun V => Hid (∀ j v, cs[j]? = some v → V.cell? ⟨db, 0 + j, none⟩ = some v) ∧ V.cell? ⟨db, 259, none⟩ = some (.int .i64 nd) ∧ V.cell? ⟨db, 260, none⟩ = some (.slice ha hl.length hc) ∧ V.cell? ⟨db, 261, none⟩ = some (.int .i64 st)) (HFA.out _ (Below.refl _ W).drew) (fun hHeld => ?_)
  refine wpAnyZ_take (i := 0) (v := ?_) rfl (by kernel_rfl) (by kernel_rfl) (by kernel_rfl) (by kernel_rfl) (fun _ _ _ h => h) (Or.inl ⟨by first | kernel_rfl | rfl, ?_⟩) (by assumption) ?_
  rotate_left
  · intro w hSw; (try dsimp only at hSw); go_simp; (try with_reducible rfl)
  (try simp only [Act.put, List.getElem_toArray, List.getElem_cons_succ, List.getElem_cons_zero, List.setIfInBounds_toArray, List.set_cons_zero, List.set_cons_succ])
  refine wpAnyZ_take (i := 1) (v := ?_) rfl (by kernel_rfl) (by kernel_rfl) (by kernel_rfl) (by kernel_rfl) (fun _ _ _ h => h) (Or.inl ⟨by first | kernel_rfl | rfl, ?_⟩) (by assumption) ?_
  rotate_left
  · intro w hSw; (try dsimp only at hSw); go_simp; (try with_reducible rfl)
  (try simp only [Act.put, List.getElem_toArray, List.getElem_cons_succ, List.getElem_cons_zero, List.setIfInBounds_toArray, List.set_cons_zero, List.set_cons_succ])
  refine wpAnyZ_take (i := 2) (v := ?_) rfl (by kernel_rfl) (by kernel_rfl) (by kernel_rfl) (by kernel_rfl) (fun _ _ _ h => h) (Or.inl ⟨by first | kernel_rfl | rfl, ?_⟩) (by assumption) ?_
  rotate_left
  · intro w hSw; (try dsimp only at hSw); go_simp; (try with_reducible rfl)
  (try simp only [Act.put, List.getElem_toArray, List.getElem_cons_succ, List.getElem_cons_zero, List.setIfInBounds_toArray, List.set_cons_zero, List.set_cons_succ])
  refine wpAnyZ_take (i := 3) (v := .agg cs) rfl (by kernel_rfl) (by kernel_rfl) (by kernel_rfl) (by kernel_rfl) (fun _ _ _ h => h) (Or.inl ⟨by first | kernel_rfl | rfl, ?_⟩) (by assumption) ?_
  · intro w hSw
    exact exec_load_part 49 (.tmp 7) rfl db 0 rfl cs _ hSw.1.out Tryz.underlying49 rfl HI.out
  (try simp only [Act.put, List.getElem_toArray, List.getElem_cons_succ, List.getElem_cons_zero, List.setIfInBounds_toArray, List.set_cons_zero, List.set_cons_succ])
  refine wpAnyZ_take (i := 4) (v := ?_) rfl (by kernel_rfl) (by kernel_rfl) (by kernel_rfl) (by kernel_rfl) (fun _ _ _ h => h) (Or.inl ⟨by first | kernel_rfl | rfl, ?_⟩) (by assumption) ?_
  rotate_left
  · intro w hSw; (try dsimp only at hSw); go_simp; (try with_reducible rfl)
  (try simp only [Act.put, List.getElem_toArray, List.getElem_cons_succ, List.getElem_cons_zero, List.setIfInBounds_toArray, List.set_cons_zero, List.set_cons_succ])
  refine wpAnyZ_take (i := 5) (v := ?_) rfl (by kernel_rfl) (by kernel_rfl) (by kernel_rfl) (by kernel_rfl) (fun _ _ _ h => h) (Or.inl ⟨by first | kernel_rfl | rfl, ?_⟩) (by assumption) ?_
  rotate_left
  · intro w hSw; (try dsimp only at hSw); go_simp; (try with_reducible rfl)
  (try simp only [Act.put, List.getElem_toArray, List.getElem_cons_succ, List.getElem_cons_zero, List.setIfInBounds_toArray, List.set_cons_zero, List.set_cons_succ])
  refine wpAnyZ_take (i := 6) (v := ?_) rfl (by kernel_rfl) (by kernel_rfl) (by kernel_rfl) (by kernel_rfl) (fun _ _ _ h => h) (Or.inl ⟨by first | kernel_rfl | rfl, ?_⟩) (by assumption) ?_
  rotate_left
  · intro w hSw; (try dsimp only at hSw); go_simp; (try with_reducible rfl)
  (try simp only [Act.put, List.getElem_toArray, List.getElem_cons_succ, List.getElem_cons_zero, List.setIfInBounds_toArray, List.set_cons_zero, List.set_cons_succ])
  refine wpAnyZ_take (i := 7) (v := ?_) rfl (by kernel_rfl) (by kernel_rfl) (by kernel_rfl) (by kernel_rfl) (fun _ _ _ h => h) (Or.inl ⟨by first | kernel_rfl | rfl, ?_⟩) (by assumption) ?_
  rotate_left
  · intro w hSw; (try dsimp only at hSw); go_simp; (try with_reducible rfl)
  (try simp only [Act.put, List.getElem_toArray, List.getElem_cons_succ, List.getElem_cons_zero, List.setIfInBounds_toArray, List.set_cons_zero, List.set_cons_succ])
  refine wpAnyZ_take (i := 8) (v := ?_) rfl (by kernel_rfl) (by kernel_rfl) (by kernel_rfl) (by kernel_rfl) (fun _ _ _ h => h) (Or.inl ⟨by first | kernel_rfl | rfl, ?_⟩) (by assumption) ?_
  rotate_left
  · intro w hSw; (try dsimp only at hSw); go_simp; (try with_reducible rfl)
  (try simp only [Act.put, List.getElem_toArray, List.getElem_cons_succ, List.getElem_cons_zero, List.setIfInBounds_toArray, List.set_cons_zero, List.set_cons_succ])
  refine wpAnyZ_take (i := 9) (v := ?_) rfl (by kernel_rfl) (by kernel_rfl) (by kernel_rfl) (by kernel_rfl) (fun _ _ _ h => h) (Or.inl ⟨by first | kernel_rfl | rfl, ?_⟩) (by assumption) ?_
  rotate_left
  · intro w hSw; (try dsimp only at hSw); go_simp; (try with_reducible rfl)
  (try simp only [Act.put, List.getElem_toArray, List.getElem_cons_succ, List.getElem_cons_zero, List.setIfInBounds_toArray, List.set_cons_zero, List.set_cons_succ])
  refine wpAnyZ_take (i := 10) (v := ?_) rfl (by kernel_rfl) (by kernel_rfl) (by kernel_rfl) (by kernel_rfl) (fun _ _ _ h => h) (Or.inl ⟨by first | kernel_rfl | rfl, ?_⟩) (by assumption) ?_
  rotate_left
  · intro w hSw; (try dsimp only at hSw); go_simp; (try with_reducible rfl)
  (try simp only [Act.put, List.getElem_toArray, List.getElem_cons_succ, List.getElem_cons_zero, List.setIfInBounds_toArray, List.set_cons_zero, List.set_cons_succ])
  refine wpAnyZ_take (i := 11) (v := ?_) rfl (by kernel_rfl) (by kernel_rfl) (by kernel_rfl) (by kernel_rfl) (fun _ _ _ h => h) (Or.inl ⟨by first | kernel_rfl | rfl, ?_⟩) (by assumption) ?_
  rotate_left
  · intro w hSw; (try dsimp only at hSw); go_simp; (try with_reducible rfl)
  (try simp only [Act.put, List.getElem_toArray, List.getElem_cons_succ, List.getElem_cons_zero, List.setIfInBounds_toArray, List.set_cons_zero, List.set_cons_succ])
  refine wpAnyZ_take (i := 13) (v := ?_) rfl (by kernel_rfl) (by kernel_rfl) (by kernel_rfl) (by kernel_rfl) (fun _ _ _ h => h) (Or.inl ⟨by first | kernel_rfl | rfl, ?_⟩) (by assumption) ?_
  rotate_left
  · intro w hSw; (try dsimp only at hSw); go_simp; (try with_reducible rfl)
  (try simp only [Act.put, List.getElem_toArray, List.getElem_cons_succ, List.getElem_cons_zero, List.setIfInBounds_toArray, List.set_cons_zero, List.set_cons_succ])
  refine wpAnyZ_take (i := 14) (v := ?_) rfl (by kernel_rfl) (by kernel_rfl) (by kernel_rfl) (by kernel_rfl) (fun _ _ _ h => h) (Or.inl ⟨by first | kernel_rfl | rfl, ?_⟩) (by assumption) ?_
  rotate_left
  · intro w hSw; (try dsimp only at hSw); go_simp; (try with_reducible rfl)
  (try simp only [Act.put, List.getElem_toArray, List.getElem_cons_succ, List.getElem_cons_zero, List.setIfInBounds_toArray, List.set_cons_zero, List.set_cons_succ])
  refine wpAnyZ_take (i := 15) (v := ?_) rfl (by kernel_rfl) (by kernel_rfl) (by kernel_rfl) (by kernel_rfl) (fun _ _ _ h => h) (Or.inl ⟨by first | kernel_rfl | rfl, ?_⟩) (by assumption) ?_
  rotate_left
  · intro w hSw; (try dsimp only at hSw); go_simp; (try with_reducible rfl)
  (try simp only [Act.put, List.getElem_toArray, List.getElem_cons_succ, List.getElem_cons_zero, List.setIfInBounds_toArray, List.set_cons_zero, List.set_cons_succ])
  refine wpAnyZ_take (i := 16) (v := ?_) rfl (by kernel_rfl) (by kernel_rfl) (by kernel_rfl) (by kernel_rfl) (fun _ _ _ h => h) (Or.inl ⟨by first | kernel_rfl | rfl, ?_⟩) (by assumption) ?_
  rotate_left
  · intro w hSw; (try dsimp only at hSw); go_simp; (try with_reducible rfl)
  (try simp only [Act.put, List.getElem_toArray, List.getElem_cons_succ, List.getElem_cons_zero, List.setIfInBounds_toArray, List.set_cons_zero, List.set_cons_succ])
  refine wpAnyZ_ready (i := 12) (by kernel_rfl) rfl (fun K hK => ?_)
  go_simp
  refine (CloneByte W.drew (Sl.drewN (by
    have h := (HBY.out W (BelD.refl _ _)).sl
    rwa [← List.map_eq_flatMap] at h) 1) (fun u hu => by obtain ⟨x, _, rfl⟩ := List.mem_map.1 hu; rfl) (by omega) hc).mono ?_
  rintro e w2 ⟨A3, c3, rfl, HO3, HB3⟩
  have HB3X : Hid (Below W.heap.size W w2) := Lib.hid ((Below.refl W.heap.size W).drew.trans HB3.out)
  refine hK.out _ _ ((HFA.out _ HB3X.out)) (fun hHeld => ?_)
  clear hK K
  (try simp only [Act.put, List.getElem_toArray, List.getElem_cons_succ, List.getElem_cons_zero, List.setIfInBounds_toArray, List.set_cons_zero, List.set_cons_succ])
  obtain ⟨dcl, hdc⟩ : ∃ z, (drvC cs nd A3 c3 hl st).toArray = z := ⟨_, rfl⟩
  have HBD : Hid (Tryz.prog.built 180 [(0, .agg cs), (1, .int .i64 nd), (2, .slice A3 hl.length c3), (3, .int .i64 st)] = some dcl) := Lib.hid (by rw [built_copy cs HS.out, hdc])
  have HDC := Lib.hid hdc
  clear hdc
  refine wpAnyZ_take (i := 17) (v := .agg dcl) rfl (by kernel_rfl) (by kernel_rfl) (by kernel_rfl) (by kernel_rfl) (fun _ _ _ h => h) (Or.inl ⟨by first | kernel_rfl | rfl, ?_⟩) (by assumption) ?_
  · intro w hSw
    exact exec_build 180 _ rfl _ (by simp [go_sem]) dcl HBD.out
  (try simp only [Act.put, List.getElem_toArray, List.getElem_cons_succ, List.getElem_cons_zero, List.setIfInBounds_toArray, List.set_cons_zero, List.set_cons_succ])
  refine wpAnyZ_ready (i := 18) (by kernel_rfl) rfl (fun K hK => ?_)
  go_simp
  refine hK.out _ _ ((HFA.out _ (HB3X.out.alloc HB3X.out.size _))) (fun hHeld => ?_)
  clear hK K
  (try simp only [Act.put, List.getElem_toArray, List.getElem_cons_succ, List.getElem_cons_zero, List.setIfInBounds_toArray, List.set_cons_zero, List.set_cons_succ])
  refine wpAnyZ_last (i := 19) rfl (by kernel_rfl) (by kernel_rfl) rfl (fun K hK => ?_)
  go_simp
  refine hK.out _ _ ?_
  clear hK K hHeld
  go_wp2_with fail
  go_ret
  have hsz : W.heap.size ≤ w2.heap.size := HB3X.out.size
  have HB4 : Hid (Below W.heap.size W (w2.alloc (.cells dcl 180))) := Lib.hid (HB3X.out.alloc hsz _)
  have hlt4 : w2.heap.size < (w2.alloc (.cells dcl 180)).heap.size := by simp
  refine ⟨w2.heap.size, A3, c3, rfl, hsz, Lib.hid (DrvK.wide HKD.out HB4.out (fun k hk => .inl hk) (fun k hk => hk.imp id fun e => by omega) (fun k hk => ?_)), Lib.hid ⟨?_, HKD.out.tc, HKD.out.ok, HKD.out.sok, fun V hV => ⟨?_, ?_⟩, .inr rfl, fun k hk => ?_⟩, HB4⟩
  · rcases hk with hk | rfl
    · have := HKD.out.lt k hk; omega
    · exact hlt4
  · rw [HST.out, HND.out, HHL.out]
    show _ = _
    rw [heap_alloc_new w2 _, ← HDC.out]
  · exact (HKD.out.dep V ⟨hV.os.trans HB4.out.os, hV.tape.trans HB4.out.tape, hV.output.trans HB4.out.output, Nat.le_trans HB4.out.size hV.size, fun k hk hx => (hV.block k (Nat.lt_of_lt_of_le hk HB4.out.size) (fun e => by
      rcases e with e | e
      · exact hx e
      · omega)).trans (HB4.out.block k hk)⟩).1
  · rw [HHL.out]
    refine bytes_own HO3.out ((HBY.out W (BelD.refl _ _)).u8) (by omega) V fun k hk => ?_
    obtain ⟨q1, q2, -⟩ := own_ty HO3.out hk
    have q1' : W.heap.size ≤ k := q1
    exact (hV.block k (by simp; omega) (fun e => by
      rcases e with e | e
      · have := HKD.out.lt k e; omega
      · omega)).trans (Below.heap_alloc _ _ _ q2)
  · rcases hk with hk | rfl
    · have := HKD.out.lt k hk; omega
    · exact hlt4
theorem Copy_nil (W : World) : Calls Tryz.prog 47 #[.pointer none] W fun e w' => e = .returned (.pointer none) ∧ W = w' := by
  go_enter Tryz.func47, Tryz.ntmps47
  go_wp2_with fail
  go_ret
  exact ⟨rfl, rfl⟩
theorem Close_nil (W : World) : Calls Tryz.prog 40 #[.pointer none] W fun e w' => e = .returned (.tuple #[.slice none 0 0, .int .i64 1]) ∧ W = w' := by
  go_enter Tryz.func40, Tryz.ntmps40
  go_wp2_with fail
  refine (fault_nil W).mono ?_
  rintro e w1 ⟨rfl, rfl⟩
  go_wp2_with fail
  go_ret2
  exact ⟨rfl, rfl⟩
theorem Write_nil (W : World) : Calls Tryz.prog 42 #[.pointer none, .slice none 0 0] W fun e w' => e = .returned (.tuple #[.slice none 0 0, .int .i64 1]) ∧ W = w' := by
  go_enter Tryz.func42, Tryz.ntmps42
  go_wp2_with fail
  refine (fault_nil W).mono ?_
  rintro e w1 ⟨rfl, rfl⟩
  go_wp2_with fail
  go_ret2
  exact ⟨rfl, rfl⟩
end
end Go.Proofs.YtlmkokeapbleoaaGreat
end
section
namespace Go.Proofs.YtlmkokeapbleoaaGreat
namespace Kahn
abbrev Edge := Nat × Nat
def cnt (L : List Edge) (t : Nat) : Nat := L.countP (fun e => e.2 == t)
def outs (E : List Edge) (s : Nat) : List Edge := E.filter (fun e => e.1 == s)
def rounds (E : List Edge) : Nat → (Nat → Bool) → Bool
  | 0, _ => true
  | k+1, on =>
    if E.any (fun e => on e.1) then rounds E k (fun t => E.any (fun e => on e.1 && e.2 == t)) else false
def cyc (E : List Edge) (n : Nat) : Bool := rounds E (n+1) (fun _ => true)
structure KI (E : List Edge) (n : Nat) (W : List Nat) (X : List Edge) (D : Nat → Nat) : Prop where
  nod : W.Nodup
  lt : ∀ t ∈ W, t < n
  sum : ∀ t, t < n → D t + cnt X t = cnt E t
  zero : ∀ t, t < n → (t ∈ W ↔ D t = 0)
  le : ∀ e, X.count e ≤ E.count e
  src : ∀ e ∈ X, e.1 ∈ W
  ord : ∀ e ∈ E, e.2 ∈ W → e.1 ∈ W ∧ W.idxOf e.1 < W.idxOf e.2
theorem rest {X E : List Edge} (h : ∀ e, X.count e ≤ E.count e) : ∃ Y, E.Perm (X ++ Y) := by
  induction X generalizing E with
  | nil => exact ⟨E, .refl _⟩
  | cons x X ih =>
    have hx := h x
    have hm : x ∈ E := List.count_pos_iff.1 (by simp at hx; omega)
    have hp := List.perm_cons_erase hm
    obtain ⟨Y, hY⟩ := ih (E := E.erase x) (by
      intro e
      have h1 := h e
      rw [List.count_cons, hp.count_eq e, List.count_cons] at h1
      split at h1 <;> omega)
    exact ⟨Y, hp.trans (hY.cons x)⟩
theorem cnt_le {X E : List Edge} (h : ∀ e, X.count e ≤ E.count e) (t : Nat) : cnt X t ≤ cnt E t :=
  let ⟨Y, hp⟩ := rest h
  by simp only [cnt]; rw [hp.countP_eq, List.countP_append]; omega
def upd (D : Nat → Nat) (t v : Nat) : Nat → Nat := fun x => if x = t then v else D x
theorem KI.start {E : List Edge} {n : Nat} :
    KI E n ((List.range n).filter (fun t => cnt E t == 0)) [] (cnt E) where
  nod := List.nodup_range.filter _
  lt := fun t ht => List.mem_range.1 (List.mem_filter.1 ht).1
  sum := fun t _ => by simp [cnt]
  zero := fun t ht => by simp [ht]
  le := fun e => by simp
  src := fun e he => absurd he (by simp)
  ord := fun e he ht => by
    have h0 : cnt E e.2 = 0 := by simpa using (List.mem_filter.1 ht).2
    have := List.countP_eq_zero.1 h0 e he
    simp at this
def Gone (E : List Edge) (W : List Nat) (d : Nat) (X : List Edge) : Prop :=
  ∀ e, X.count e = if e.1 ∈ W.take d then E.count e else 0
theorem Gone.start (E : List Edge) (W : List Nat) : Gone E W 0 [] := by intro e; simp
theorem Gone.le {E : List Edge} {W : List Nat} {d : Nat} {X : List Edge} (h : Gone E W d X) (hn : W.Nodup)
    {s : Nat} (hs : W[d]? = some s) {L : List Edge} (hL : L <+: outs E s) :
    ∀ e, (X ++ L).count e ≤ E.count e := by
  intro e
  rw [List.count_append, h e]
  have hsub := hL.sublist.count_le e
  have hnot : s ∉ W.take d := by
    intro hm
    obtain ⟨k, hk, hq⟩ := List.mem_iff_getElem.1 hm
    have hk' := hk
    simp at hk'
    have hdl : d < W.length := by
      rcases Nat.lt_or_ge d W.length with h | h
      · exact h
      · rw [List.getElem?_eq_none h] at hs; cases hs
    have h2 : W[d] = s := by rw [List.getElem?_eq_getElem hdl] at hs; simpa using hs
    rw [List.getElem_take] at hq
    have hk2 : k < W.length := by omega
    have := List.pairwise_iff_getElem.1 hn k d hk2 hdl (by omega)
    exact this (hq.trans h2.symm)
  by_cases he : e.1 = s
  · rw [if_neg (by rw [he]; exact hnot)]
    have : (outs E s).count e ≤ E.count e := List.filter_sublist.count_le e
    omega
  · have h0 : (outs E s).count e = 0 := by
      apply List.count_eq_zero.2
      intro hm; have := (List.mem_filter.1 hm).2; simp at this; exact he this
    split <;> omega
theorem Gone.next {E : List Edge} {W : List Nat} {d : Nat} {X : List Edge} (h : Gone E W d X) (hn : W.Nodup)
    {s : Nat} (hs : W[d]? = some s) (V : List Nat) : Gone E (W ++ V) (d+1) (X ++ outs E s) := by
  intro e
  have hdl : d < W.length := by
    rcases Nat.lt_or_ge d W.length with h | h
    · exact h
    · rw [List.getElem?_eq_none h] at hs; cases hs
  have h2 : W[d] = s := by rw [List.getElem?_eq_getElem hdl] at hs; simpa using hs
  have ht : (W ++ V).take (d+1) = W.take d ++ [s] := by
    rw [List.take_append_of_le_length (by omega), List.take_add_one, hs]; rfl
  rw [ht, List.count_append, h e]
  have hle := h.le hn hs (List.prefix_refl (outs E s)) e
  rw [List.count_append, h e] at hle
  by_cases he : e.1 = s
  · have hin : e.1 ∈ W.take d ++ [s] := by simp [he]
    have hout : (outs E s).count e = E.count e := by
      simp only [outs]; rw [List.count_filter]; simp [he]
    rw [if_pos hin, hout]; rw [hout] at hle
    split
    · rename_i hm
      rw [if_pos hm] at hle
      omega
    · omega
  · have h0 : (outs E s).count e = 0 := by
      apply List.count_eq_zero.2
      intro hm; have := (List.mem_filter.1 hm).2; simp at this; exact he this
    have hiff : e.1 ∈ W.take d ++ [s] ↔ e.1 ∈ W.take d := by simp [he]
    rw [h0]; simp only [hiff, Nat.add_zero]
theorem few {W : List Nat} {n : Nat} (hn : W.Nodup) (hlt : ∀ t ∈ W, t < n) : W.length ≤ n := by
  have := hn.length_le_of_subset (l₂ := List.range n) (fun t ht => List.mem_range.2 (hlt t ht))
  simpa using this
theorem full {W : List Nat} {n : Nat} (hn : W.Nodup) (hlt : ∀ t ∈ W, t < n) (hl : n ≤ W.length) : ∀ t, t < n → t ∈ W := by
  intro t ht
  apply Classical.byContradiction
  intro hw
  have := few (W := t :: W) (n := n) (List.nodup_cons.2 ⟨hw, hn⟩) (by
    intro u hu
    rcases List.mem_cons.1 hu with hu | hu
    · exact hu ▸ ht
    · exact hlt u hu)
  simp at this; omega
theorem rounds_none {E : List Edge} {W : List Nat} (hall : ∀ e ∈ E, e.1 ∈ W ∧ W.idxOf e.1 < W.idxOf e.2 ∧ W.idxOf e.2 < W.length) :
    ∀ k j (on : Nat → Bool), (∀ t, on t = true → t ∈ W → j ≤ W.idxOf t) → W.length ≤ j + k → rounds E (k+1) on = false := by
  intro k
  induction k with
  | zero =>
    intro j on hon hk
    unfold rounds
    rw [if_neg]
    intro hany
    obtain ⟨e, he, h1⟩ := List.any_eq_true.1 hany
    have := hall e he
    have := hon e.1 h1 this.1
    omega
  | succ k ih =>
    intro j on hon hk
    unfold rounds
    split
    · apply ih (j+1) _ _ (by omega)
      intro t ht htw
      obtain ⟨e, he, h1⟩ := List.any_eq_true.1 ht
      simp at h1
      have h2 := hall e he
      have h3 := hon e.1 h1.1 h2.1
      rw [← h1.2]; omega
    · rfl
theorem rounds_some {E : List Edge} (S : Nat → Prop) (hne : ∃ t, S t)
    (hpre : ∀ t, S t → ∃ e ∈ E, e.2 = t ∧ S e.1) :
    ∀ k (on : Nat → Bool), (∀ t, S t → on t = true) → rounds E k on = true := by
  intro k
  induction k with
  | zero => intro on _; rfl
  | succ k ih =>
    intro on hon
    unfold rounds
    obtain ⟨t, ht⟩ := hne
    obtain ⟨e, he, _, hs⟩ := hpre t ht
    rw [if_pos (List.any_eq_true.2 ⟨e, he, hon _ hs⟩)]
    apply ih
    intro u hu
    obtain ⟨e, he, hq, hs⟩ := hpre u hu
    exact List.any_eq_true.2 ⟨e, he, by simp [hon _ hs, hq]⟩
theorem KI.fin {E : List Edge} {n : Nat} {W : List Nat} {X : List Edge} {D : Nat → Nat} (h : KI E n W X D)
    (hE : ∀ e ∈ E, e.1 < n ∧ e.2 < n) (hg : Gone E W W.length X) : decide (W.length < n) = cyc E n := by
  by_cases hl : W.length < n
  · rw [decide_eq_true hl]
    symm
    apply rounds_some (S := fun t => t < n ∧ t ∉ W)
    · apply Classical.byContradiction
      intro hno
      have hall : ∀ t, t < n → t ∈ W := fun t ht => Classical.byContradiction fun hq => hno ⟨t, ht, hq⟩
      have := (List.nodup_range (n := n)).length_le_of_subset (fun t ht => hall t (List.mem_range.1 ht))
      simp at this; omega
    · rintro t ⟨ht, htw⟩
      have hd : D t ≠ 0 := fun hq => htw ((h.zero t ht).2 hq)
      have hsum := h.sum t ht
      apply Classical.byContradiction
      intro hno
      have hin : ∀ e ∈ E, e.2 = t → e.1 ∈ W := fun e he hq =>
        Classical.byContradiction fun hw => hno ⟨e, he, hq, (hE e he).1, hw⟩
      have hfil : ∀ e : Edge, (X.filter (fun e => e.2 == t)).count e = (E.filter (fun e => e.2 == t)).count e := by
        intro e
        rcases Nat.eq_zero_or_pos ((E.filter (fun e => e.2 == t)).count e) with h0 | hp
        · rw [h0]
          rcases Nat.eq_zero_or_pos ((X.filter (fun e => e.2 == t)).count e) with h1 | h1
          · exact h1
          · have hm := List.mem_filter.1 (List.count_pos_iff.1 h1)
            have he := List.count_pos_iff.1 (Nat.lt_of_lt_of_le (List.count_pos_iff.2 hm.1) (h.le e))
            have := List.count_eq_zero.1 h0
            exact absurd (List.mem_filter.2 ⟨he, hm.2⟩) this
        · have hm := List.mem_filter.1 (List.count_pos_iff.1 hp)
          rw [List.count_filter (p := fun e : Edge => e.2 == t) hm.2, List.count_filter (p := fun e : Edge => e.2 == t) hm.2, hg e, List.take_length, if_pos (hin e hm.1 (by simpa using hm.2))]
      have hperm := (List.perm_iff_count.2 hfil).length_eq
      simp only [cnt, List.countP_eq_length_filter] at hsum
      omega
    · intros; rfl
  · rw [decide_eq_false hl]
    symm
    have hall := full h.nod h.lt (by omega)
    have hlen := few h.nod h.lt
    refine rounds_none (W := W) ?_ n 0 _ (fun _ _ _ => Nat.zero_le _) (by omega)
    intro e he
    have h1 := hall e.2 (hE e he).2
    have h2 := h.ord e he h1
    exact ⟨h2.1, h2.2, List.idxOf_lt_length_of_mem h1⟩
end Kahn
end Go.Proofs.YtlmkokeapbleoaaGreat
end
section
namespace Go.Proofs.YtlmkokeapbleoaaGreat
open Go.RowKit
structure RuleL where
  fr : Int
  dst : Int
  gs : List (List Sp)
  eat : Int
  out : List TermL
structure FinL where
  fr : Int
  gs : List (List Sp)
  out : List TermL
structure DescL where
  i : Int
  o : Int
  n : Int
  s : Int
  rules : List RuleL
  fins : List FinL
def LLr (R : Option Addr → List Sp → World → Prop) (A : Option Addr) (O : List (Item Sp)) (W : World) : Prop := Items R A O.length O W ∧ O.length ≤ 9223372036854775807
theorem LLr.below {R : Option Addr → List Sp → World → Prop} (hR : Lasts R) {A : Option Addr} {O : List (Item Sp)} {w w' : World} (h : LLr R A O w) (hb : Below w.heap.size w w') : LLr R A O w' := ⟨Items.below h.1 hR hb, h.2⟩
theorem LLr.at_ {R : Option Addr → List Sp → World → Prop} {A : Option Addr} {L : List (Item Sp)} {W : World} (h : LLr R A L W) {k : Nat} (hk : k < L.length) : ∃ gb off ba bc b, A = some ⟨gb, off, none⟩ ∧ L[k]? = some (ba, bc, b) ∧ (bodies L)[k]? = some b ∧ W.cell? ⟨gb, off + k, none⟩ = some (.slice ba b.length bc) ∧ R ba b W := by
  obtain ⟨gb, off, ba, bc, b, hA, hx, hc, hl⟩ := h.1.at_ hk
  exact ⟨gb, off, ba, bc, b, hA, hx, by unfold bodies; rw [List.getElem?_map, hx]; rfl, hc, hl⟩
theorem LLr.llx {A : Option Addr} {O : List (Item Sp)} {W : World} (h : LLr Lst A O W) : LLx A O W := h
structure RuleI where
  fr : Int
  dst : Int
  ga : Option Addr
  gc : Nat
  gs : List (Item Sp)
  e : Int
  o : OutI
def RuleI.L (r : RuleI) : RuleL := ⟨r.fr, r.dst, bodies r.gs, r.e, r.o.L⟩
def ruleC (r : RuleI) : List Value := [.int .i64 r.fr, .int .i64 r.dst, .slice r.ga r.gs.length r.gc, .int .i64 r.e, .slice r.o.a r.o.l.length r.o.c]
def RuleR (R : Option Addr → List Sp → World → Prop) (r : RuleI) (W : World) : Prop := (I64 r.fr ∧ I64 r.dst ∧ I64 r.e) ∧ LLr R r.ga r.gs W ∧ OutW r.o W
structure FinI where
  fr : Int
  ga : Option Addr
  gc : Nat
  gs : List (Item Sp)
  o : OutI
def FinI.L (r : FinI) : FinL := ⟨r.fr, bodies r.gs, r.o.L⟩
def finC (r : FinI) : List Value := [.int .i64 r.fr, .slice r.ga r.gs.length r.gc, .slice r.o.a r.o.l.length r.o.c]
def FinR (R : Option Addr → List Sp → World → Prop) (r : FinI) (W : World) : Prop := I64 r.fr ∧ LLr R r.ga r.gs W ∧ OutW r.o W
def RulesAt (R : Option Addr → List Sp → World → Prop) (A : Option Addr) (l : List RuleI) (W : World) : Prop := RowsAt 5 ruleC (RuleR R) A l W
def FinsAt (R : Option Addr → List Sp → World → Prop) (A : Option Addr) (l : List FinI) (W : World) : Prop := RowsAt 3 finC (FinR R) A l W
structure DescI where
  i : Int
  o : Int
  n : Int
  s : Int
  ra : Option Addr
  rc : Nat
  rs : List RuleI
  fa : Option Addr
  fc : Nat
  fs : List FinI
def DescI.L (d : DescI) : DescL := ⟨d.i, d.o, d.n, d.s, d.rs.map RuleI.L, d.fs.map FinI.L⟩
structure DescR (R : Option Addr → List Sp → World → Prop) (d : DescI) (W : World) : Prop where
  nums : I64 d.i ∧ I64 d.o ∧ I64 d.n ∧ I64 d.s
  rules : RulesAt R d.ra d.rs W
  fins : FinsAt R d.fa d.fs W
section
variable {R : Option Addr → List Sp → World → Prop}
theorem RuleR.stays (hR : Lasts R) : Stays (RuleR R) := fun r w w' h hb => ⟨h.1, h.2.1.below hR hb, TermsAt.below h.2.2 hb⟩
theorem FinR.stays (hR : Lasts R) : Stays (FinR R) := fun r w w' h hb => ⟨h.1, h.2.1.below hR hb, TermsAt.below h.2.2 hb⟩
theorem RuleR.below (hR : Lasts R) {r : RuleI} {w w' : World} (h : RuleR R r w) (hb : Below w.heap.size w w') : RuleR R r w' := RuleR.stays hR _ _ _ h hb
theorem FinR.below (hR : Lasts R) {r : FinI} {w w' : World} (h : FinR R r w) (hb : Below w.heap.size w w') : FinR R r w' := FinR.stays hR _ _ _ h hb
theorem RulesAt.below (hR : Lasts R) {A : Option Addr} {l : List RuleI} {w w' : World} (h : RulesAt R A l w) (hb : Below w.heap.size w w') : RulesAt R A l w' := RowsAt.below h (RuleR.stays hR) hb
theorem FinsAt.below (hR : Lasts R) {A : Option Addr} {l : List FinI} {w w' : World} (h : FinsAt R A l w) (hb : Below w.heap.size w w') : FinsAt R A l w' := RowsAt.below h (FinR.stays hR) hb
theorem DescR.below (hR : Lasts R) {d : DescI} {w w' : World} (h : DescR R d w) (hb : Below w.heap.size w w') : DescR R d w' := ⟨h.nums, h.rules.below hR hb, h.fins.below hR hb⟩
theorem RulesAt.at_ {A : Option Addr} {l : List RuleI} {W : World} (h : RulesAt R A l W) {j : Nat} (hj : j < l.length) : ∃ b off r, A = some ⟨b, off, none⟩ ∧ l[j]? = some r ∧ RuleR R r W ∧
    W.cell? ⟨b, off + j * 5, none⟩ = some (.int .i64 r.fr) ∧ W.cell? ⟨b, off + j * 5 + 1, none⟩ = some (.int .i64 r.dst) ∧ W.cell? ⟨b, off + j * 5 + 2, none⟩ = some (.slice r.ga r.gs.length r.gc) ∧ W.cell? ⟨b, off + j * 5 + 3, none⟩ = some (.int .i64 r.e) ∧
    W.cell? ⟨b, off + j * 5 + 4, none⟩ = some (.slice r.o.a r.o.l.length r.o.c) := by
  obtain ⟨b, off, p, hA, hp, hc, hw⟩ := RowsAt.at_ h (fun _ => rfl) hj
  exact ⟨b, off, p, hA, hp, hw, hc 0 _ rfl, hc 1 _ rfl, hc 2 _ rfl, hc 3 _ rfl, hc 4 _ rfl⟩
theorem FinsAt.at_ {A : Option Addr} {l : List FinI} {W : World} (h : FinsAt R A l W) {j : Nat} (hj : j < l.length) : ∃ b off r, A = some ⟨b, off, none⟩ ∧ l[j]? = some r ∧ FinR R r W ∧
    W.cell? ⟨b, off + j * 3, none⟩ = some (.int .i64 r.fr) ∧ W.cell? ⟨b, off + j * 3 + 1, none⟩ = some (.slice r.ga r.gs.length r.gc) ∧ W.cell? ⟨b, off + j * 3 + 2, none⟩ = some (.slice r.o.a r.o.l.length r.o.c) := by
  obtain ⟨b, off, p, hA, hp, hc, hw⟩ := RowsAt.at_ h (fun _ => rfl) hj
  exact ⟨b, off, p, hA, hp, hw, hc 0 _ rfl, hc 1 _ rfl, hc 2 _ rfl⟩
end
abbrev RuleW := RuleR Lst
abbrev FinW := FinR Lst
abbrev DescW := DescR Lst
def domL (s : Int) : List Sp := if s = 1 then [(0, 255)] else if s = 2 then [(0, 55295), (57344, 1114111)] else []
def SortOk (s : Int) : Prop := s = 1 ∨ s = 2
theorem domL_plain (s : Int) : Plain (domL s) := by
  unfold domL
  split
  · simp [Plain, PlainF]
  · split <;> simp [Plain, PlainF]
theorem domL_nil (s : Int) : domL s = [] ↔ ¬ SortOk s := by
  unfold domL SortOk
  split
  · rename_i h; simp [h]
  · split
    · rename_i h; simp [h]
    · rename_i h1 h2; simp [h1, h2]
def InD (s x : Int) : Prop := InS (domL s) x
theorem inD_iff (s x : Int) : InD s x ↔ ((s = 1 ∧ 0 ≤ x ∧ x ≤ 255) ∨ (s = 2 ∧ ((0 ≤ x ∧ x ≤ 55295) ∨ (57344 ≤ x ∧ x ≤ 1114111)))) := by
  unfold InD domL
  split
  · rename_i h; simp [h, InS]
  · split
    · rename_i h; simp [h, InS]
    · rename_i h1 h2; simp [h1, h2, InS]
theorem inD_mem (s x : Int) : Mem (domL s) x ↔ InD s x := (domL_plain s).mem x
def StateOk (n s : Int) : Prop := 0 ≤ s ∧ s < n
def HeadOk (d : DescL) : Prop := SortOk d.i ∧ SortOk d.o ∧ 1 ≤ d.n ∧ d.n ≤ 1024 ∧ StateOk d.n d.s ∧ d.rules.length ≤ 4096 ∧ d.fins.length ≤ 4096
def GuardOk (i : Int) (g : List Sp) : Prop := g ≠ [] ∧ g.length ≤ 64 ∧ Plain g ∧ ∀ x, Mem g x → InD i x
def GuardsOk (i : Int) (gs : List (List Sp)) : Prop := gs.length ≤ 4 ∧ ∀ g ∈ gs, GuardOk i g
def WholeP (p : PartL) : Prop := p.2.1 = 0 ∧ p.2.2.1 = 21 ∧ p.2.2.2 = 0
def PlainT (t : TermL) : Prop := t.base = 0 ∧ t.drop = 0 ∧ t.take = 21 ∧ t.up = 0
def TermRt (i o : Int) (n : Nat) (t : TermL) : Prop :=
  SortOk i ∧ SortOk o ∧ NumsOk t ∧ (∀ p ∈ t.parts, PartOk n p ∧ (i = 2 → WholeP p)) ∧ (i = 2 → t.parts.length ≤ 1) ∧ (o = 2 → PlainT t)
def WinG (gs : List (List Sp)) (w : List Int) : Prop := hitM gs w ∧ WinOk w
def FitsP (i o : Int) (gs : List (List Sp)) (t : TermL) : Prop := TermRt i o gs.length t ∧ ∀ w, WinG gs w → ValOk t w ∧ InD o (valN t w)
def WritesOk (i o : Int) (gs : List (List Sp)) (out : List TermL) : Prop := out.length ≤ 64 ∧ ∀ t ∈ out, FitsP i o gs t
def RuleOk (d : DescL) (r : RuleL) : Prop := StateOk d.n r.fr ∧ StateOk d.n r.dst ∧ GuardsOk d.i r.gs ∧ min (r.gs.length : Int) 1 ≤ r.eat ∧ r.eat ≤ r.gs.length ∧ WritesOk d.i d.o r.gs r.out
def FinOk (d : DescL) (f : FinL) : Prop := StateOk d.n f.fr ∧ GuardsOk d.i f.gs ∧ WritesOk d.i d.o f.gs f.out
def epsE (l : List RuleL) : List Kahn.Edge := (l.filter fun r => r.gs.isEmpty).map fun r => (r.fr.toNat, r.dst.toNat)
def CycP (d : DescL) : Prop := Kahn.cyc (epsE d.rules) d.n.toNat = true
structure DescOk (d : DescL) : Prop where
  head : HeadOk d
  rules : ∀ r ∈ d.rules, RuleOk d r
  fins : ∀ f ∈ d.fins, FinOk d f
  cyc : ¬ CycP d
def FreeP (d : DescL) : Prop := ∀ r ∈ d.rules, r.gs ≠ []
end Go.Proofs.YtlmkokeapbleoaaGreat
end
section
namespace Go.Proofs.YtlmkokeapbleoaaGreat
open Go.RowKit
theorem DomX_any (s : Int) (w : World) : Calls Tryz.prog 54 #[.int .i64 s] w (NewSpans w (domL s)) := by
  unfold domL
  by_cases h1 : s = 1
  · rw [if_pos h1]
    subst h1
    go_enter Tryz.func54, Tryz.ntmps54
    go_wp2
    go_ret
    exact NewSpans.lit (by simp) _ 1 rfl _ rfl
  · rw [if_neg h1]
    have g1 : (s == 1) = false := by simpa using h1
    by_cases h2 : s = 2
    · rw [if_pos h2]
      subst h2
      clear h1
      go_enter Tryz.func54, Tryz.ntmps54
      go_wp2
      go_ret
      exact NewSpans.lit (by simp) _ 2 rfl _ rfl
    · rw [if_neg h2]
      have g2 : (s == 2) = false := by simpa using h2
      clear h1 h2
      go_enter Tryz.func54, Tryz.ntmps54
      go_wp2
      go_ret
      exact NewSpans.nil_ w
section
variable {w0 w : World} {F : World → Prop} {A B : Option Addr} {a b : List Sp}
theorem DomX_st (hK : Hid (St w0 w F)) (s : Int) : Calls Tryz.prog 54 #[.int .i64 s] w (RetL w0 (domL s) F) :=
  (DomX_any s w).mono fun e w1 h => retL_new hK (domL_plain s) h
theorem Within_p (hK : Hid (St w0 w F)) (ha : ∀ W, F W → Lst A a W) (hb : ∀ W, F W → Lst B b W) (c d : Nat) (v : Bool) (hv : Hid (pB (∀ x, Mem a x → Mem b x) = v)) :
    Calls Tryz.prog 189 #[.slice A a.length c, .slice B b.length d] w (RetV w0 (.bool v) F) := by
  obtain ⟨r, hr⟩ := rep_minus a b
  refine Within_st hK ha hb c d hr (v := v) ?_
  rw [← hv.out, Bool.eq_iff_iff, decide_eq_true_iff, pB_iff]
  constructor
  · rintro rfl x hx
    apply Classical.byContradiction
    intro hn
    exact rep_nil hr.out x ⟨hx, hn⟩
  · intro h
    rcases r with _ | ⟨p, r⟩
    · rfl
    · have hp := hr.out.1
      have := (hr.out.2 p.1).1 (.inl ⟨Int.le_refl _, hp.2.1⟩)
      exact absurd (h _ this.1) this.2
theorem Meets_p (hK : Hid (St w0 w F)) (ha : ∀ W, F W → Lst A a W) (hb : ∀ W, F W → Lst B b W) (c d : Nat) (v : Bool) (hv : Hid (pB (∃ x, Mem a x ∧ Mem b x) = v)) :
    Calls Tryz.prog 225 #[.slice A a.length c, .slice B b.length d] w (RetV w0 (.bool v) F) := by
  obtain ⟨r, hr⟩ := rep_meet a b
  refine Meets_st hK ha hb c d hr (v := v) ?_
  rw [← hv.out, Bool.eq_iff_iff, pB_iff]
  constructor
  · intro h
    rcases r with _ | ⟨p, r⟩
    · simp at h
    · have hp := hr.out.1
      exact ⟨p.1, (hr.out.2 p.1).1 (.inl ⟨Int.le_refl _, hp.2.1⟩)⟩
  · rintro ⟨x, hx⟩
    have := rep_ne hr.out hx
    simpa using this
def GuardsTo (i : Int) (gs : List (List Sp)) (k : Nat) : Prop := ∀ g ∈ gs.take k, GuardOk i g
theorem guards_st (hK : Hid (St w0 w F)) (i : Int) {O : List (Item Sp)} (ha : ∀ W, F W → LLx A O W) (c : Nat) (v : Bool) (hv : Hid (pB (GuardsOk i (bodies O)) = v)) :
    Calls Tryz.prog 152 #[.int .i64 i, .slice A O.length c] w (RetV w0 (.bool v) F) := by
  have HA := Lib.hid ha
  clear ha
  by_cases h4 : O.length ≤ 4
  case neg =>
    have h4' : ¬ (O.length : Int) ≤ 4 := by omega
    obtain rfl := pB_f hv (fun h => h4 (by have := h.1; rwa [bodies_length] at this))
    go_enter Tryz.func152, Tryz.ntmps152
    go_wp2_with fail
    go_ret
    exact ⟨rfl, hK⟩
  have h4' : (O.length : Int) ≤ 4 := by omega
  go_enter Tryz.func152, Tryz.ntmps152
  go_wp2_with fail
  refine (DomX_st hK i).mono ?_
  rintro e w1 ⟨A1, c1, rfl, HK1⟩
  go_wp2_with fail
  go_loopw [15] (fun iv wr => ∃ k : Nat, k ≤ O.length ∧ iv = .int .i64 k ∧ Hid (GuardsTo i (bodies O) k) ∧ Hid (St w0 wr (fun W => Lst A1 (domL i) W ∧ F W))) (fun iv _ => O.length - (intOf iv).toNat)
  case atStart => exact ⟨0, Nat.zero_le _, rfl, Lib.hid (fun g hg => by simp at hg), HK1⟩
  case round =>
  clear HK1
  obtain ⟨k, hk, rfl, HR, HK⟩ := hrel
  by_cases hlt : k < O.length
  · obtain ⟨gb, off, ba, bc, b, rfl, _, hb, hc, hl⟩ := (HA.out _ HK.out.now.2).at_ hlt
    have HX := Lib.hid hb
    have hbl := hl.len
    have HKi := Lib.hid (HK.out.add (Below.refl _ _) (G := Lst ba b) (fun W hW => hl.below hW))
    have HBAD : ¬ GuardOk i b → v = false := fun h => pB_f hv (fun g => h (g.2 b (List.mem_of_getElem? HX.out)))
    have HRES := Lib.hid (fun W (h : Hid (St w0 W (fun W => Lst ba b W ∧ Lst A1 (domL i) W ∧ F W))) => (Lib.hid (h.out.weaken fun _ h => h.2.2) : Hid (St w0 W F)))
    clear hb hl
    by_cases g1 : b.length = 0
    · have g1' : ((b.length : Int) == 0) = true := by rw [g1]; rfl
      obtain rfl := HBAD fun h => h.1 (List.length_eq_zero_iff.1 g1)
      clear HBAD g1
      go_wp2_with fail
      go_ret
      exact ⟨rfl, HRES.out _ HKi⟩
    have g1' : ((b.length : Int) == 0) = false := by rw [beq_eq_false_iff_ne]; omega
    by_cases g2 : b.length ≤ 64
    case neg =>
      have g2' : ¬ (b.length : Int) ≤ 64 := by omega
      obtain rfl := HBAD fun h => g2 h.2.1
      clear HBAD g1
      go_wp2_with fail
      go_ret
      exact ⟨rfl, HRES.out _ HKi⟩
    have g2' : (b.length : Int) ≤ 64 := by omega
    rcases hp : plainB (-1073741826) b with _ | _
    · obtain rfl := HBAD fun h => by have := (plainB_iff _ _).2 (show PlainF (-1073741826) b from h.2.2.1); rw [hp] at this; cases this
      have HP := Lib.hid hp
      clear HBAD g1 hp
      go_wp2_with fail
      refine (Check_st HKi (fun _ h => h.1) bc HP.out).mono ?_
      rintro e w3 ⟨rfl, HK3⟩
      go_wp2_with fail
      go_ret
      exact ⟨rfl, HRES.out _ HK3⟩
    have HP := Lib.hid hp
    by_cases g4 : ∀ x, Mem b x → Mem (domL i) x
    case neg =>
      obtain rfl := HBAD fun h => g4 fun x hx => (inD_mem i x).2 (h.2.2.2 x hx)
      have HW := Lib.hid (pB_false g4)
      clear HBAD g1 hp g4
      go_wp2_with fail
      refine (Check_st HKi (fun _ h => h.1) bc HP.out).mono ?_
      rintro e w3 ⟨rfl, HK3⟩
      go_wp2_with fail
      refine (Within_p HK3 (fun _ h => h.1) (fun _ h => h.2.1) bc c1 false HW).mono ?_
      rintro e w4 ⟨rfl, HK4⟩
      go_wp2_with fail
      go_ret
      exact ⟨rfl, HRES.out _ HK4⟩
    have HW := Lib.hid (pB_true g4)
    have HN : Hid (GuardsTo i (bodies O) (k + 1)) := Lib.hid fun q hq => by
      rw [take_snoc? HX.out] at hq
      rcases List.mem_append.1 hq with hq | hq
      · exact HR.out q hq
      · simp at hq; subst hq
        exact ⟨fun h => g1 (by rw [h]; rfl), g2, (plainB_iff _ _).1 hp, fun x hx => (inD_mem i x).1 (g4 x hx)⟩
    clear HBAD g1 hp g4
    go_wp2_with fail
    refine (Check_st HKi (fun _ h => h.1) bc HP.out).mono ?_
    rintro e w3 ⟨rfl, HK3⟩
    go_wp2_with fail
    refine (Within_p HK3 (fun _ h => h.1) (fun _ h => h.2.1) bc c1 true HW).mono ?_
    rintro e w4 ⟨rfl, HK4⟩
    go_wp2_with fail
    go_roundw
    case rel => exact ⟨k + 1, by omega, by go_num, HN, Lib.hid (HK4.out.weaken fun _ h => h.2)⟩
    case measure => simp [intOf]; omega
  · obtain rfl : k = O.length := by omega
    have hd : decide (O.length < O.length) = false := by simp
    obtain rfl := pB_t hv ⟨by rw [bodies_length]; omega, by have := HR.out; unfold GuardsTo at this; rwa [List.take_of_length_le (by rw [bodies_length]; omega)] at this⟩
    go_wp2_with fail
    go_ret
    exact ⟨rfl, Lib.hid (HK.out.weaken fun _ h => h.2)⟩
end
end Go.Proofs.YtlmkokeapbleoaaGreat
end
