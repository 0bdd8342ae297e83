/- Contract of the driver's Close. Condition: the driver is known. Contract of drive.Run; a driver that is new. Condition: the table and the bytes are known. Contracts of the packages word and umlautref02: In, Fits, Front, Compare. Condition: the slices that come in are no longer than an int can count. Contracts of the packages word and umlautref02: Front, Compare. Condition: the slices that come in are no longer than an int can count. Contract of word.Of: of any text the runes that a range over it tells. Condition: the text is shorter than 2^40 bytes. Contracts of word.Domain, umlautref02.Domain, umlautref02.Same. Condition: the slices that come in are no longer than an int can count. Contracts of word.Raw and word.Bytes. Condition: the slices that come in have fewer than 2^40 elements. Conversions between bytes and strings in the walk's spelling. Condition: none. Contract of umlautlaw19.awake: the example is driven as it should. Condition: none. Contract of umlautlaw19.great: what is too large. Condition: the table and the operations are known. Openers for arguments that are slices of records: from the claim's reading of a slice to 'RowsAt'. Condition: none. Openers for arguments that are tables. Condition: none. Opener for arguments that are slices of bytes. Condition: none. The argument of []umlautlaw19.Op, opened: where it lies and what it says. Condition: none. -/
import Derived.Test.YtlmkokeapbleoaaGreatM19
import Derived.Test.YtlmkokeapbleoaaGreatM07
import Derived.Test.YtlmkokeapbleoaaGreatM01
import Derived.Laws.StructEq
import Derived.OpenShut
import Derived.Laws.BytesArg
import Derived.Test.YtlmkokeapbleoaaGreatM16
import Derived.Lib.SlBytesConst
import Derived.Test.YtlmkokeapbleoaaGreatM13
import Derived.Deep.Slices
import Derived.ChangeArms
import Derived.ChangeSame
section
namespace Go.Proofs.YtlmkokeapbleoaaGreat
open Go.RowKit Go.Shelf
set_option linter.unusedVariables false
set_option linter.unusedSimpArgs false
def RetCl (D : Nat → Prop) (db : Nat) (cs : Array Value) (T : TabI) (s : DrvS) (W : World) (e : Ending) (W' : World) : Prop :=
  ∃ A c ha' hc', e = .returned (.tuple #[.slice A (clS T.L s).2.1.length c, .int .i64 (clS T.L s).2.2]) ∧ Hid (DrvK D db cs T (clS T.L s).1 ha' hc' W') ∧ Hid (BelD (fun k => k = db) W W') ∧ Hid (∀ V, BelD D W' V → BytesAt A (clS T.L s).2.1 V) ∧ Hid (W'.ownsRow W.heap.size 5 1 (.slice A (clS T.L s).2.1.length c) (clS T.L s).2.1.length ((clS T.L s).2.1.map (Value.int .u8))) ∧ Hid ((clS T.L s).2.1.length ≤ 64)
section
variable {D : Nat → Prop} {db : Nat} {cs : Array Value} {T : TabI} {s : DrvS} {ha : Option Addr} {hc : Nat} {W : World}
theorem end_at {T : TabI} {j : Nat} {o : OutI} (h : T.es[j]? = some o) : T.L.ends[j]? = some o.L := by
  rw [show T.L.ends = T.es.map OutI.L from rfl, List.getElem?_map, h]; rfl
set_option maxRecDepth 100000 in
set_option maxHeartbeats 64000000 in
theorem Close_st (HKD : Hid (DrvK D db cs T s ha hc W)) :
    Calls Tryz.prog 40 #[.pointer (some ⟨db, 0, none⟩)] W (RetCl D db cs T s W) := by
  have hs := HKD.out.tc.size
  by_cases he : errI s ≠ 0
  · have HW : Hid (clS T.L s = (s, [], errI s)) := Lib.hid (by unfold clS; rw [if_pos he])
    have hne : (errI s != 0) = true := by rw [bne_iff_ne]; exact he
    go_enter Tryz.func40, Tryz.ntmps40
    go_wp2_with fail
    refine (fault_st HKD.out.box hs).mono ?_
    rintro e w1 ⟨rfl, rfl⟩
    clear he
    go_wp2_with fail
    go_ret2
    refine ⟨none, 0, ha, hc, by rw [HW.out]; rfl, by rw [HW.out]; exact HKD, Lib.hid (BelD.refl _ _), Lib.hid fun V _ => ?_, Lib.hid ?_, Lib.hid (by rw [HW.out]; exact Nat.zero_le _)⟩
    · rw [HW.out]
      exact BytesAt.nil_ _ _
    · rw [HW.out]
      exact World.ownsRow_nil _ _ _ _
  have he0 : errI s = 0 := Classical.not_not.1 he
  obtain ⟨hrj, hcl⟩ : s.1.rej = false ∧ s.2 = false := by
    unfold errI at he0
    rcases h1 : s.1.rej with _ | _
    · rcases h2 : s.2 with _ | _
      · exact ⟨rfl, rfl⟩
      · rw [h1, h2] at he0; simp at he0
    · rw [h1] at he0; simp at he0
  obtain ⟨s0, sc0⟩ := s
  simp only at hrj hcl
  subst hcl
  have HW : Hid (clS T.L (s0, false) = if endL' T.L s0.node < 0 then ((Drv.rejd, false), [], 7) else ((s0, true), wrB (T.L.ends.getD (endL' T.L s0.node).toNat []) s0.held, 0)) := Lib.hid (by unfold clS; rw [if_neg (by simpa using he)])
  have HRJ := Lib.hid hrj
  have hne : (errI (s0, false) != 0) = false := by rw [he0]; rfl
  have hnl : s0.node < T.ns.length := by have := HKD.out.sok.lt; rwa [nodesL_len] at this
  have htw := (HKD.out.dep W (BelD.refl _ _)).1
  obtain ⟨nb, noff, n, hnA, hnx, hnw, m0, m1, m2⟩ := htw.nodes.at_ hnl
  have hLn : T.L.nodes[s0.node]? = some n.L := nodesL_at hnx
  have hend : endL' T.L s0.node = n.e := by unfold endL'; rw [hLn]; rfl
  have hno := HKD.out.ok.nodes n.L (List.mem_of_getElem? hLn)
  have d256 := HKD.out.box.cell (drvC_lo HKD.out.tc.c1)
  have d259 := HKD.out.box.cNode hs
  simp only at d259
  rw [hnA] at d256
  have HFA : Hid (∀ V, Below W.heap.size W V → V.cell? ⟨db, 256, none⟩ = some (.slice (some ⟨nb, noff, none⟩) T.ns.length T.nc) ∧ V.cell? ⟨db, 259, none⟩ = some (.int .i64 s0.node) ∧ V.cell? ⟨nb, noff + s0.node * 3, none⟩ = some (.int .i64 n.h) ∧ V.cell? ⟨nb, noff + s0.node * 3 + 1, none⟩ = some (.slice n.na n.nx.length n.nc) ∧ V.cell? ⟨nb, noff + s0.node * 3 + 2, none⟩ = some (.int .i64 n.e)) := Lib.hid fun V hV =>
    ⟨(hV.cell (lt_of_cell d256)).trans d256, (hV.cell (lt_of_cell d259)).trans d259, (hV.cell (lt_of_cell m0)).trans m0, (hV.cell (lt_of_cell m1)).trans m1, (hV.cell (lt_of_cell m2)).trans m2⟩
  have HEND := Lib.hid hend
  have HNO := Lib.hid hno
  have hnode : (s0.node : Int) < (T.ns.length : Int) := by omega
  clear he hrj htw hnA hnx hnw m0 m1 m2 hLn hend hno d256 d259
  go_enter Tryz.func40, Tryz.ntmps40
  go_wp2_with fail
  refine (fault_st HKD.out.box hs).mono ?_
  rintro e w1 ⟨rfl, rfl⟩
  rw [he0]
  clear hne he0
  go_wp2_with fail
  refine wp_region_Z 12 (by kernel_rfl) (fun V => V.cell? ⟨db, 256, none⟩ = some (.slice (some ⟨nb, noff, none⟩) T.ns.length T.nc) ∧ V.cell? ⟨db, 259, none⟩ = some (.int .i64 s0.node) ∧ V.cell? ⟨nb, noff + s0.node * 3, none⟩ = some (.int .i64 n.h) ∧ V.cell? ⟨nb, noff + s0.node * 3 + 1, none⟩ = some (.slice n.na n.nx.length n.nc) ∧ V.cell? ⟨nb, noff + s0.node * 3 + 2, none⟩ = some (.int .i64 n.e)) (HFA.out _ (Below.refl _ W).drew) (fun hHeld => ?_)
  refine wpAnyZ_take (i := 0) (v := ?_) rfl (by kernel_rfl) (by kernel_rfl) (by kernel_rfl) (by kernel_rfl) (fun _ _ _ h => h) (Or.inl ⟨by first | kernel_rfl | rfl, ?_⟩) (by assumption) ?_
  rotate_left
  · intro w hSw; (try dsimp only at hSw); go_simp; (try with_reducible rfl)
  (try simp only [Act.put, List.getElem_toArray, List.getElem_cons_succ, List.getElem_cons_zero, List.setIfInBounds_toArray, List.set_cons_zero, List.set_cons_succ])
  refine wpAnyZ_take (i := 1) (v := ?_) rfl (by kernel_rfl) (by kernel_rfl) (by kernel_rfl) (by kernel_rfl) (fun _ _ _ h => h) (Or.inl ⟨by first | kernel_rfl | rfl, ?_⟩) (by assumption) ?_
  rotate_left
  · intro w hSw; (try dsimp only at hSw); go_simp; (try with_reducible rfl)
  (try simp only [Act.put, List.getElem_toArray, List.getElem_cons_succ, List.getElem_cons_zero, List.setIfInBounds_toArray, List.set_cons_zero, List.set_cons_succ])
  refine wpAnyZ_take (i := 2) (v := ?_) rfl (by kernel_rfl) (by kernel_rfl) (by kernel_rfl) (by kernel_rfl) (fun _ _ _ h => h) (Or.inl ⟨by first | kernel_rfl | rfl, ?_⟩) (by assumption) ?_
  rotate_left
  · intro w hSw; (try dsimp only at hSw); go_simp; (try with_reducible rfl)
  (try simp only [Act.put, List.getElem_toArray, List.getElem_cons_succ, List.getElem_cons_zero, List.setIfInBounds_toArray, List.set_cons_zero, List.set_cons_succ])
  refine wpAnyZ_take (i := 3) (v := ?_) rfl (by kernel_rfl) (by kernel_rfl) (by kernel_rfl) (by kernel_rfl) (fun _ _ _ h => h) (Or.inl ⟨by first | kernel_rfl | rfl, ?_⟩) (by assumption) ?_
  rotate_left
  · intro w hSw; (try dsimp only at hSw); go_simp; (try with_reducible rfl)
  (try simp only [Act.put, List.getElem_toArray, List.getElem_cons_succ, List.getElem_cons_zero, List.setIfInBounds_toArray, List.set_cons_zero, List.set_cons_succ])
  refine wpAnyZ_take (i := 4) (v := ?_) rfl (by kernel_rfl) (by kernel_rfl) (by kernel_rfl) (by kernel_rfl) (fun _ _ _ h => h) (Or.inl ⟨by first | kernel_rfl | rfl, ?_⟩) (by assumption) ?_
  rotate_left
  · intro w hSw; (try dsimp only at hSw); go_simp; (try with_reducible rfl)
  (try simp only [Act.put, List.getElem_toArray, List.getElem_cons_succ, List.getElem_cons_zero, List.setIfInBounds_toArray, List.set_cons_zero, List.set_cons_succ])
  refine wpAnyZ_take (i := 5) (v := ?_) rfl (by kernel_rfl) (by kernel_rfl) (by kernel_rfl) (by kernel_rfl) (fun _ _ _ h => h) (Or.inl ⟨by first | kernel_rfl | rfl, ?_⟩) (by assumption) ?_
  rotate_left
  · intro w hSw; (try dsimp only at hSw); go_simp; (try with_reducible rfl)
  (try simp only [Act.put, List.getElem_toArray, List.getElem_cons_succ, List.getElem_cons_zero, List.setIfInBounds_toArray, List.set_cons_zero, List.set_cons_succ])
  refine wpAnyZ_take (i := 6) (v := ?_) rfl (by kernel_rfl) (by kernel_rfl) (by kernel_rfl) (by kernel_rfl) (fun _ _ _ h => h) (Or.inl ⟨by first | kernel_rfl | rfl, ?_⟩) (by assumption) ?_
  rotate_left
  · intro w hSw; (try dsimp only at hSw); go_simp; (try with_reducible rfl)
  (try simp only [Act.put, List.getElem_toArray, List.getElem_cons_succ, List.getElem_cons_zero, List.setIfInBounds_toArray, List.set_cons_zero, List.set_cons_succ])
  refine wpAnyZ_take (i := 7) (v := ?_) rfl (by kernel_rfl) (by kernel_rfl) (by kernel_rfl) (by kernel_rfl) (fun _ _ _ h => h) (Or.inl ⟨by first | kernel_rfl | rfl, ?_⟩) (by assumption) ?_
  rotate_left
  · intro w hSw; (try dsimp only at hSw); go_simp; (try with_reducible rfl)
  (try simp only [Act.put, List.getElem_toArray, List.getElem_cons_succ, List.getElem_cons_zero, List.setIfInBounds_toArray, List.set_cons_zero, List.set_cons_succ])
  refine wpAnyZ_take (i := 8) (v := ?_) rfl (by kernel_rfl) (by kernel_rfl) (by kernel_rfl) (by kernel_rfl) (fun _ _ _ h => h) (Or.inl ⟨by first | kernel_rfl | rfl, ?_⟩) (by assumption) ?_
  rotate_left
  · intro w hSw; (try dsimp only at hSw); go_simp; (try with_reducible rfl)
  (try simp only [Act.put, List.getElem_toArray, List.getElem_cons_succ, List.getElem_cons_zero, List.setIfInBounds_toArray, List.set_cons_zero, List.set_cons_succ])
  refine wpAnyZ_take (i := 9) (v := ?_) rfl (by kernel_rfl) (by kernel_rfl) (by kernel_rfl) (by kernel_rfl) (fun _ _ _ h => h) (Or.inl ⟨by first | kernel_rfl | rfl, ?_⟩) (by assumption) ?_
  rotate_left
  · intro w hSw; (try dsimp only at hSw); go_simp; (try with_reducible rfl)
  (try simp only [Act.put, List.getElem_toArray, List.getElem_cons_succ, List.getElem_cons_zero, List.setIfInBounds_toArray, List.set_cons_zero, List.set_cons_succ])
  refine wpAnyZ_take (i := 10) (v := ?_) rfl (by kernel_rfl) (by kernel_rfl) (by kernel_rfl) (by kernel_rfl) (fun _ _ _ h => h) (Or.inl ⟨by first | kernel_rfl | rfl, ?_⟩) (by assumption) ?_
  rotate_left
  · intro w hSw; (try dsimp only at hSw); go_simp; (try with_reducible rfl)
  (try simp only [Act.put, List.getElem_toArray, List.getElem_cons_succ, List.getElem_cons_zero, List.setIfInBounds_toArray, List.set_cons_zero, List.set_cons_succ])
  refine wpAnyZ_ready (i := 11) (by kernel_rfl) rfl (fun K hK => ?_)
  go_simp
  refine hK.out _ _ ((HFA.out _ ((Below.refl _ W).drew.alloc (Nat.le_refl _) _))) (fun hHeld => ?_)
  clear hK K
  (try simp only [Act.put, List.getElem_toArray, List.getElem_cons_succ, List.getElem_cons_zero, List.setIfInBounds_toArray, List.set_cons_zero, List.set_cons_succ])
  refine wpAnyZ_last (i := 12) rfl (by kernel_rfl) (by kernel_rfl) rfl (fun K hK => ?_)
  go_simp
  refine hK.out _ _ ?_
  clear hK K hHeld
  obtain ⟨w4, hw4⟩ : ∃ z, (W.alloc (.cells #[.int .i64 n.h, .slice n.na n.nx.length n.nc, .int .i64 n.e] 64)).drew = z := ⟨_, rfl⟩
  have hb4 : Below W.heap.size W w4 := by rw [← hw4]; exact ((Below.refl _ W).alloc (Nat.le_refl _) _).drew
  have hxx : w4.heap[W.heap.size]? = some (.cells #[.int .i64 n.h, .slice n.na n.nx.length n.nc, .int .i64 n.e] 64 (0, 0)) := by rw [← hw4]; exact heap_alloc_new W _
  have y2 : w4.cell? ⟨W.heap.size, 2, none⟩ = some (.int .i64 n.e) := by simp [World.cell?, hxx]
  have HB4 := Lib.hid hb4
  have HXX := Lib.hid hxx
  have hst : stI (s0, false) = 0 := by unfold stI; rw [HRJ.out]; rfl
  have hbox := HKD.out.box.keep (hb4.block _ HKD.out.box.lt)
  rw [hst] at hbox
  have HBOX : Hid (DrvB db cs s0.node ha hc s0.held 0 w4) := Lib.hid hbox
  have HLT : Hid (db < W.heap.size ∧ ∀ k, D k → k < W.heap.size) := Lib.hid ⟨HKD.out.box.lt, HKD.out.lt⟩
  clear hb4 hxx hst hbox
  by_cases hf : n.e < 0
  · have HW2 : Hid (clS T.L (s0, false) = ((Drv.rejd, false), [], 7)) := Lib.hid (by rw [HW.out, HEND.out, if_pos hf])
    go_wp2_with fail
    (try rw [hw4])
    refine (reject_st HBOX.out hs).mono ?_
    rintro e w5 ⟨rfl, HB5, HE5⟩
    go_wp2_with fail
    go_ret2
    have hbd : BelD (fun k => k = db) W w5 := (BelD.of_below HB4.out).trans HE5.out
    refine ⟨none, 0, none, 0, by rw [HW2.out]; rfl, Lib.hid ?_, Lib.hid hbd, Lib.hid fun V _ => ?_, Lib.hid ?_, Lib.hid (by rw [HW2.out]; exact Nat.zero_le _)⟩
    · rw [HW2.out]
      exact ⟨HB5.out, HKD.out.tc, HKD.out.ok, ⟨(drv_right HKD.out.ok).pos, by simp [Drv.rejd, (drv_right HKD.out.ok).zero], fun _ => rfl⟩, fun V hV => ⟨(HKD.out.dep V ((hbd.mono fun k (e : k = db) => (e ▸ HKD.out.mem : D k)).trans hV)).1, BytesAt.nil_ _ _⟩, HKD.out.mem, fun k hk => Nat.lt_of_lt_of_le (HKD.out.lt k hk) hbd.size⟩
    · rw [HW2.out]; exact BytesAt.nil_ _ _
    · rw [HW2.out]; exact World.ownsRow_nil _ _ _ _
  obtain ⟨fn, hfn⟩ : ∃ fn : Nat, n.e = (fn : Int) := Int.eq_ofNat_of_zero_le (by omega)
  have hfl : fn < T.es.length := by
    have h := HNO.out.1.2.2.2.2
    rw [show T.L.ends = T.es.map OutI.L from rfl, List.length_map, show n.L.fin = n.e from rfl] at h
    omega
  obtain ⟨eb, eoff, o, heA, heo, hew, ec⟩ := (HKD.out.dep W (BelD.refl _ _)).1.ends.at_ hfl
  have hLe : T.L.ends[fn]? = some o.L := end_at heo
  have HW2 : Hid (clS T.L (s0, false) = ((s0, true), wrB o.L s0.held, 0)) := Lib.hid (by
    rw [HW.out, HEND.out, if_neg hf, hfn, Int.toNat_natCast, List.getD_eq_getElem?_getD, hLe]; rfl)
  have HTO : Hid (∀ t ∈ o.l, NumsOk t.L) := Lib.hid fun t ht => by
    obtain ⟨l, q1, q2⟩ := HNO.out.2.1 (by rw [show n.L.fin = n.e from rfl]; omega)
    rw [show n.L.fin = n.e from rfl, hfn, Int.toNat_natCast, hLe] at q1
    injection q1 with q1
    exact (q2 t.L (by rw [← q1]; exact List.mem_map.2 ⟨t, ht, rfl⟩)).1
  have hol : o.l.length ≤ 64 := by
    have h := HKD.out.ok.ends o.L (List.mem_of_getElem? hLe)
    rwa [show o.L = o.l.map TermI.L from rfl, List.length_map] at h
  have hh4 : s0.held.length ≤ 4 := drv_len HKD.out.ok HKD.out.sok
  have f1 := HBOX.out.fz 261
  have p1 := HBOX.out.cState hs
  obtain ⟨w5, hw5⟩ : ∃ z, w4.setCell ⟨db, 261, none⟩ (.int .i64 1) = z := ⟨_, rfl⟩
  have HBX : Hid (DrvB db cs s0.node ha hc s0.held 1 w5) := Lib.hid (by rw [← hw5]; exact HBOX.out.setState hs 1)
  have HBD : Hid (BelD (fun k => k = db) W w5) := Lib.hid (by rw [← hw5]; exact (BelD.of_below (D := fun k => k = db) HB4.out).setCell rfl _ _)
  have e258 := HBX.out.cell (drvC_lo HKD.out.tc.c3)
  have e260 := HBX.out.cHeld hs
  rw [heA] at e258
  have ec5 : w5.cell? ⟨eb, eoff + fn, none⟩ = some (.slice o.a o.l.length o.c) := by
    obtain ⟨b', o', z, hA2, hz, -, hcz⟩ := (HKD.out.dep w5 (HBD.out.mono fun k (e : k = db) => (e ▸ HKD.out.mem : D k))).1.ends.at_ hfl
    rw [heA] at hA2
    injection hA2 with e; injection e with e1 e2; subst e1 e2
    rw [heo] at hz; injection hz with hz; subst hz
    exact hcz
  have ey : w5.cell? ⟨W.heap.size, 2, none⟩ = some (.int .i64 (fn : Int)) := by
    have h : w5.heap[W.heap.size]? = w4.heap[W.heap.size]? := by rw [← hw5]; exact heap_setCell_other _ _ _ _ (by have := HLT.out.1; show W.heap.size ≠ db; omega)
    rw [← hfn, ← y2]; exact World.cell?_of_block h
  have HFB : Hid (∀ V, Below w5.heap.size w5 V → V.cell? ⟨db, 258, none⟩ = some (.slice (some ⟨eb, eoff, none⟩) T.es.length T.ec) ∧ V.cell? ⟨db, 260, none⟩ = some (.slice ha s0.held.length hc) ∧ V.cell? ⟨eb, eoff + fn, none⟩ = some (.slice o.a o.l.length o.c) ∧ V.cell? ⟨W.heap.size, 2, none⟩ = some (.int .i64 (fn : Int))) := Lib.hid fun V hV =>
    ⟨(hV.cell (lt_of_cell e258)).trans e258, (hV.cell (lt_of_cell e260)).trans e260, (hV.cell (lt_of_cell ec5)).trans ec5, (hV.cell (lt_of_cell ey)).trans ey⟩
  have hfi : (fn : Int) < (T.es.length : Int) := by omega
  have HEO := Lib.hid heo
  have HDW : Hid (∀ V, BelD (OwnR none) w5.drew V → TermsAt o.a o.l V ∧ BytesAt ha s0.held V) := Lib.hid fun V hV => by
    have h1 : BelD D W V := (HBD.out.mono fun k (e : k = db) => (e ▸ HKD.out.mem : D k)).trans ⟨hV.os, hV.tape, hV.output, hV.size, fun k hk _ => hV.block k hk (fun e => (by cases e))⟩
    have h2 := HKD.out.dep V h1
    exact ⟨h2.1.ends.it o (List.mem_of_getElem? HEO.out), h2.2⟩
  have HFN := Lib.hid hfn
  clear heA hew ec hLe heo e258 e260 ec5 ey hfn
  go_wp2_with fail
  (try rw [hw5])
  refine wp_region_Z 15 (by kernel_rfl) (fun V => V.cell? ⟨db, 258, none⟩ = some (.slice (some ⟨eb, eoff, none⟩) T.es.length T.ec) ∧ V.cell? ⟨db, 260, none⟩ = some (.slice ha s0.held.length hc) ∧ V.cell? ⟨eb, eoff + fn, none⟩ = some (.slice o.a o.l.length o.c) ∧ V.cell? ⟨W.heap.size, 2, none⟩ = some (.int .i64 (fn : Int))) (HFB.out _ (Below.refl _ w5).drew) (fun hHeld => ?_)
  refine wpAnyZ_take (i := 0) (v := ?_) rfl (by kernel_rfl) (by kernel_rfl) (by kernel_rfl) (by kernel_rfl) (fun _ _ _ h => h) (Or.inl ⟨by first | kernel_rfl | rfl, ?_⟩) (by assumption) ?_
  rotate_left
  · intro w hSw; (try dsimp only at hSw); go_simp; (try with_reducible rfl)
  (try simp only [Act.put, List.getElem_toArray, List.getElem_cons_succ, List.getElem_cons_zero, List.setIfInBounds_toArray, List.set_cons_zero, List.set_cons_succ])
  refine wpAnyZ_take (i := 1) (v := ?_) rfl (by kernel_rfl) (by kernel_rfl) (by kernel_rfl) (by kernel_rfl) (fun _ _ _ h => h) (Or.inl ⟨by first | kernel_rfl | rfl, ?_⟩) (by assumption) ?_
  rotate_left
  · intro w hSw; (try dsimp only at hSw); go_simp; (try with_reducible rfl)
  (try simp only [Act.put, List.getElem_toArray, List.getElem_cons_succ, List.getElem_cons_zero, List.setIfInBounds_toArray, List.set_cons_zero, List.set_cons_succ])
  refine wpAnyZ_take (i := 2) (v := ?_) rfl (by kernel_rfl) (by kernel_rfl) (by kernel_rfl) (by kernel_rfl) (fun _ _ _ h => h) (Or.inl ⟨by first | kernel_rfl | rfl, ?_⟩) (by assumption) ?_
  rotate_left
  · intro w hSw; (try dsimp only at hSw); go_simp; (try with_reducible rfl)
  (try simp only [Act.put, List.getElem_toArray, List.getElem_cons_succ, List.getElem_cons_zero, List.setIfInBounds_toArray, List.set_cons_zero, List.set_cons_succ])
  refine wpAnyZ_take (i := 3) (v := ?_) rfl (by kernel_rfl) (by kernel_rfl) (by kernel_rfl) (by kernel_rfl) (fun _ _ _ h => h) (Or.inl ⟨by first | kernel_rfl | rfl, ?_⟩) (by assumption) ?_
  rotate_left
  · intro w hSw; (try dsimp only at hSw); go_simp; (try with_reducible rfl)
  (try simp only [Act.put, List.getElem_toArray, List.getElem_cons_succ, List.getElem_cons_zero, List.setIfInBounds_toArray, List.set_cons_zero, List.set_cons_succ])
  refine wpAnyZ_take (i := 4) (v := ?_) rfl (by kernel_rfl) (by kernel_rfl) (by kernel_rfl) (by kernel_rfl) (fun _ _ _ h => h) (Or.inl ⟨by first | kernel_rfl | rfl, ?_⟩) (by assumption) ?_
  rotate_left
  · intro w hSw; (try dsimp only at hSw); go_simp; (try with_reducible rfl)
  (try simp only [Act.put, List.getElem_toArray, List.getElem_cons_succ, List.getElem_cons_zero, List.setIfInBounds_toArray, List.set_cons_zero, List.set_cons_succ])
  refine wpAnyZ_take (i := 5) (v := ?_) rfl (by kernel_rfl) (by kernel_rfl) (by kernel_rfl) (by kernel_rfl) (fun _ _ _ h => h) (Or.inl ⟨by first | kernel_rfl | rfl, ?_⟩) (by assumption) ?_
  rotate_left
  · intro w hSw; (try dsimp only at hSw); go_simp; (try with_reducible rfl)
  (try simp only [Act.put, List.getElem_toArray, List.getElem_cons_succ, List.getElem_cons_zero, List.setIfInBounds_toArray, List.set_cons_zero, List.set_cons_succ])
  refine wpAnyZ_take (i := 6) (v := ?_) rfl (by kernel_rfl) (by kernel_rfl) (by kernel_rfl) (by kernel_rfl) (fun _ _ _ h => h) (Or.inl ⟨by first | kernel_rfl | rfl, ?_⟩) (by assumption) ?_
  rotate_left
  · intro w hSw; (try dsimp only at hSw); go_simp; (try with_reducible rfl)
  (try simp only [Act.put, List.getElem_toArray, List.getElem_cons_succ, List.getElem_cons_zero, List.setIfInBounds_toArray, List.set_cons_zero, List.set_cons_succ])
  refine wpAnyZ_take (i := 7) (v := ?_) rfl (by kernel_rfl) (by kernel_rfl) (by kernel_rfl) (by kernel_rfl) (fun _ _ _ h => h) (Or.inl ⟨by first | kernel_rfl | rfl, ?_⟩) (by assumption) ?_
  rotate_left
  · intro w hSw; (try dsimp only at hSw); go_simp; (try with_reducible rfl)
  (try simp only [Act.put, List.getElem_toArray, List.getElem_cons_succ, List.getElem_cons_zero, List.setIfInBounds_toArray, List.set_cons_zero, List.set_cons_succ])
  refine wpAnyZ_take (i := 8) (v := ?_) rfl (by kernel_rfl) (by kernel_rfl) (by kernel_rfl) (by kernel_rfl) (fun _ _ _ h => h) (Or.inl ⟨by first | kernel_rfl | rfl, ?_⟩) (by assumption) ?_
  rotate_left
  · intro w hSw; (try dsimp only at hSw); go_simp; (try with_reducible rfl)
  (try simp only [Act.put, List.getElem_toArray, List.getElem_cons_succ, List.getElem_cons_zero, List.setIfInBounds_toArray, List.set_cons_zero, List.set_cons_succ])
  refine wpAnyZ_take (i := 9) (v := ?_) rfl (by kernel_rfl) (by kernel_rfl) (by kernel_rfl) (by kernel_rfl) (fun _ _ _ h => h) (Or.inl ⟨by first | kernel_rfl | rfl, ?_⟩) (by assumption) ?_
  rotate_left
  · intro w hSw; (try dsimp only at hSw); go_simp; (try with_reducible rfl)
  (try simp only [Act.put, List.getElem_toArray, List.getElem_cons_succ, List.getElem_cons_zero, List.setIfInBounds_toArray, List.set_cons_zero, List.set_cons_succ])
  refine wpAnyZ_take (i := 10) (v := ?_) rfl (by kernel_rfl) (by kernel_rfl) (by kernel_rfl) (by kernel_rfl) (fun _ _ _ h => h) (Or.inl ⟨by first | kernel_rfl | rfl, ?_⟩) (by assumption) ?_
  rotate_left
  · intro w hSw; (try dsimp only at hSw); go_simp; (try with_reducible rfl)
  (try simp only [Act.put, List.getElem_toArray, List.getElem_cons_succ, List.getElem_cons_zero, List.setIfInBounds_toArray, List.set_cons_zero, List.set_cons_succ])
  refine wpAnyZ_take (i := 11) (v := ?_) rfl (by kernel_rfl) (by kernel_rfl) (by kernel_rfl) (by kernel_rfl) (fun _ _ _ h => h) (Or.inl ⟨by first | kernel_rfl | rfl, ?_⟩) (by assumption) ?_
  rotate_left
  · intro w hSw; (try dsimp only at hSw); go_simp; (try with_reducible rfl)
  (try simp only [Act.put, List.getElem_toArray, List.getElem_cons_succ, List.getElem_cons_zero, List.setIfInBounds_toArray, List.set_cons_zero, List.set_cons_succ])
  refine wpAnyZ_take (i := 12) (v := ?_) rfl (by kernel_rfl) (by kernel_rfl) (by kernel_rfl) (by kernel_rfl) (fun _ _ _ h => h) (Or.inl ⟨by first | kernel_rfl | rfl, ?_⟩) (by assumption) ?_
  rotate_left
  · intro w hSw; (try dsimp only at hSw); go_simp; (try with_reducible rfl)
  (try simp only [Act.put, List.getElem_toArray, List.getElem_cons_succ, List.getElem_cons_zero, List.setIfInBounds_toArray, List.set_cons_zero, List.set_cons_succ])
  refine wpAnyZ_ready (i := 13) (by kernel_rfl) rfl (fun K hK => ?_)
  go_simp
  refine (dwrite_st w5.drew w5.drew.heap.size (A := none) (l := []) (c := 0) (Lib.hid (World.ownsRow_nil _ _ _ _)) (Nat.le_refl _) o hc HDW HTO (by simp only [List.length_nil]; omega) (by omega)).mono ?_
  rintro e w6 ⟨A6, c6, rfl, HO6, HB6, HN6⟩
  have HB6B : Hid (Below w5.heap.size w5 w6) := Lib.hid ⟨HB6.out.os, HB6.out.tape, HB6.out.output, HB6.out.size, fun k hk => HB6.out.block k hk (fun e => (by cases e))⟩
  refine hK.out _ _ ((HFB.out _ HB6B.out)) (fun hHeld => ?_)
  clear hK K
  (try simp only [Act.put, List.getElem_toArray, List.getElem_cons_succ, List.getElem_cons_zero, List.setIfInBounds_toArray, List.set_cons_zero, List.set_cons_succ])
  refine wpAnyZ_take (i := 14) (v := ?_) rfl (by kernel_rfl) (by kernel_rfl) (by kernel_rfl) (by kernel_rfl) (fun _ _ _ h => h) (Or.inl ⟨by first | kernel_rfl | rfl, ?_⟩) (by assumption) ?_
  rotate_left
  · intro w hSw; (try dsimp only at hSw); go_simp; (try with_reducible rfl)
  (try simp only [Act.put, List.getElem_toArray, List.getElem_cons_succ, List.getElem_cons_zero, List.setIfInBounds_toArray, List.set_cons_zero, List.set_cons_succ])
  refine wpAnyZ_last (i := 15) rfl (by kernel_rfl) (by kernel_rfl) rfl (fun K hK => ?_)
  go_simp
  refine hK.out _ _ ?_
  clear hK K hHeld
  go_wp2_with fail
  go_ret2
  have ho : w6.ownsRow w5.heap.size 5 1 (.slice A6 (wrB o.L s0.held).length c6) (wrB o.L s0.held).length ((wrB o.L s0.held).map (Value.int .u8)) := HO6.out
  have hbd : BelD (fun k => k = db) W w6 := HBD.out.trans (BelD.of_below HB6B.out)
  refine ⟨A6, c6, ha, hc, by rw [HW2.out]; rfl, Lib.hid ?_, Lib.hid hbd, Lib.hid fun V hV => ?_, Lib.hid ?_, Lib.hid (by rw [HW2.out]; exact Nat.le_trans (wrB_len o.L s0.held) (by rw [show o.L.length = o.l.length from List.length_map _]; exact hol))⟩
  · rw [HW2.out]
    have e : stI (s0, true) = 1 := by unfold stI; rw [HRJ.out]; rfl
    refine ⟨?_, HKD.out.tc, HKD.out.ok, HKD.out.sok, fun V hV => HKD.out.dep V ((hbd.mono fun k (e : k = db) => (e ▸ HKD.out.mem : D k)).trans hV), HKD.out.mem, fun k hk => Nat.lt_of_lt_of_le (HKD.out.lt k hk) hbd.size⟩
    rw [e]
    exact HBX.out.keep (HB6B.out.block _ HBX.out.lt)
  · rw [HW2.out]
    have h1 := wrB_len o.L s0.held
    have h2 : o.L.length = o.l.length := List.length_map _
    have h3 := HBD.out.size
    refine bytes_own ho (wrB_u8 _ _) (by omega) V fun k hk => ?_
    obtain ⟨q1, q2, -⟩ := own_ty ho hk
    exact hV.block k q2 (fun e => by have := HLT.out.2 k e; omega)
  · rw [HW2.out]
    exact own_mono ho HBD.out.size
end
end Go.Proofs.YtlmkokeapbleoaaGreat
end
section
namespace Go.Proofs.YtlmkokeapbleoaaGreat
open Go.RowKit Go.Shelf
set_option linter.unusedVariables false
set_option linter.unusedSimpArgs false
/-- a driver's first state -/
def s00 : DrvS := (⟨0, [], false⟩, false)
theorem drvNew {w w' : World} {db : Nat} {cs' : Array Value} {T' : TabI} (tc : TabC cs' T') (ok : TabOk T'.L) (hb : DrvB db cs' 0 none 0 [] 0 w') (hd : Dep (fun k => w.heap.size ≤ k ∧ k ≠ db) w' (TabW T')) :
    DrvK (fun k => k = db) db cs' T' s00 none 0 w' :=
  ⟨hb, tc, ok, ⟨(drv_right ok).pos, by simp [s00, (drv_right ok).zero], fun h => (by cases h)⟩, fun V hV => ⟨hd V fun k hk hl => hV.block k hl hk.2, BytesAt.nil_ _ _⟩, rfl, fun k hk => by rw [hk]; exact hb.lt⟩
end Go.Proofs.YtlmkokeapbleoaaGreat
end
section
namespace Go.Proofs.YtlmkokeapbleoaaGreat
open Go.RowKit
set_option linter.unusedVariables false

end Go.Proofs.YtlmkokeapbleoaaGreat
end
section
namespace Go.Proofs.YtlmkokeapbleoaaGreat
open Go.RowKit
set_option linter.unusedVariables false

def front : List Int → List Int → Nat
  | x :: xs, y :: ys => if x = y then front xs ys + 1 else 0
  | _, _ => 0
theorem front_nil_left (ys : List Int) : front [] ys = 0 := by unfold front; rfl
theorem front_nil_right (xs : List Int) : front xs [] = 0 := by cases xs <;> (unfold front; rfl)
theorem front_cons (x y : Int) (xs ys : List Int) : front (x :: xs) (y :: ys) = if x = y then front xs ys + 1 else 0 := by rw [front]
/-- k symbols are alike -/
def Alk (xs ys : List Int) (k : Nat) : Prop := front xs ys = k + front (xs.drop k) (ys.drop k)
theorem Alk.zero (xs ys : List Int) : Alk xs ys 0 := by simp [Alk]
theorem Alk.step {xs ys : List Int} {k : Nat} {x : Int} (h : Alk xs ys k) (hx : xs[k]? = some x) (hy : ys[k]? = some x) : Alk xs ys (k + 1) := by
  unfold Alk at *
  rw [h, drop_cons? hx, drop_cons? hy, front_cons, if_pos rfl]; omega
theorem Alk.left {xs ys : List Int} {k : Nat} (h : Alk xs ys k) (hk : xs.length ≤ k) : front xs ys = k := by
  unfold Alk at *
  rw [h, List.drop_of_length_le hk, front_nil_left]; rfl
theorem Alk.right {xs ys : List Int} {k : Nat} (h : Alk xs ys k) (hk : ys.length ≤ k) : front xs ys = k := by
  unfold Alk at *
  rw [h, List.drop_of_length_le hk, front_nil_right]; rfl

end Go.Proofs.YtlmkokeapbleoaaGreat
end
section
namespace Go.Proofs.YtlmkokeapbleoaaGreat
open Go.RowKit
set_option linter.unusedVariables false

/-- the runes of a text from a place on, each with its width -/
def decs (s : ByteArray) : Nat → Nat → List (Nat × Nat)
  | 0, _ => []
  | f + 1, pos => if pos < s.size then Utf8.decode s pos :: decs s f (pos + (Utf8.decode s pos).2) else []
def runesAt (s : ByteArray) (pos : Nat) : List (Nat × Nat) := decs s (s.size - pos) pos
def runes (s : ByteArray) : List Int := (runesAt s 0).map fun d => (d.1 : Int)

end Go.Proofs.YtlmkokeapbleoaaGreat
end
section
namespace Go.Proofs.YtlmkokeapbleoaaGreat
open Go.RowKit
set_option linter.unusedVariables false

end Go.Proofs.YtlmkokeapbleoaaGreat
end
section
namespace Go.Proofs.YtlmkokeapbleoaaGreat
open Go.RowKit
set_option linter.unusedVariables false

end Go.Proofs.YtlmkokeapbleoaaGreat
end
section
namespace Go.Proofs.YtlmkokeapbleoaaGreat
open Go.RowKit
set_option linter.unusedVariables false

theorem run_conv_str {P : Program} (w : World) (src e : TypeId) (hs : P.underlying src = some (.slice e)) (he : P.underlying e = some (.int .u8)) (A : Option Addr) (n c : Nat) (xs : List Int) (h : Ints .u8 w A n xs) (dst : TypeId) (hd : P.underlying dst = some .string) :
    (convert src dst (.slice A n c)).run P w = .ok (.string (strOfNums xs)) w := by
  rcases Nat.eq_zero_or_pos n with h0 | h0
  · subst h0
    have hx : xs = [] := List.eq_nil_of_length_eq_zero h.len
    subst hx
    cases A with
    | none =>
      rw [run_convert_bytes_nil w src e hs he 0 c dst hd]
      rfl
    | some a =>
      have hl : (loadCells a 0).run P w = .ok (([] : List Int).map (Value.int .u8)).toArray w := by
        have := run_loadCells_list (P := P) w a [] (fun j v hj => by simp at hj)
        simpa using this
      rw [run_convert_bytes_string w src dst e _ 0 c hs he hd, run_bytesToString w _ 0 c [] hl, foldl_push_bytes]
      rfl
  · obtain ⟨b, off, x0, rfl, _, _⟩ := h.at_ h0
    refine run_convert_bytes_arg w src e hs he b off n c xs h.len (fun i hi => ?_) dst hd
    obtain ⟨b', off', x, hA, hx, hc⟩ := h.at_ hi
    cases hA
    rw [hc, List.getD_eq_getElem?_getD, hx]; rfl
end Go.Proofs.YtlmkokeapbleoaaGreat
end
section
namespace Go.Proofs.YtlmkokeapbleoaaGreat
open Go.RowKit Go.Shelf
set_option linter.unusedVariables false
set_option linter.unusedSimpArgs false
theorem wrS_a : wrS heldT s00 [97] = ((⟨1, [97], false⟩, false), [], 0) := by
  unfold wrS
  rw [if_neg (by decide), show s00.1 = ⟨0, [], false⟩ from rfl, held_a]; rfl
theorem wrS_b : wrS heldT (⟨1, [97], false⟩, false) [98] = ((Drv.rejd, false), [120], 7) := by
  unfold wrS
  rw [if_neg (by decide), held_b]; rfl
theorem heldT_small : SmallT heldT := ⟨by decide, by decide, by decide, by decide⟩
/-- a row of bytes that is new -/
theorem bytes_new (W : World) (l : List Int) (hu : U8s l) (hl : l.length ≤ 1000) (fr : Nat × Nat) {D : Nat → Prop} (hD : ∀ k, D k → k < W.heap.size) : ∀ V, BelD D (W.alloc (.cells (l.map (Value.int .u8)).toArray 5 fr)) V → BytesAt (some ⟨W.heap.size, 0, none⟩) l V := fun V hV => by
  have h1 : (W.alloc (.cells (l.map (Value.int .u8)).toArray 5 fr)).heap[W.heap.size]? = some (.cells (l.map (Value.int .u8)).toArray 5 fr) := heap_alloc_new W _
  have h2 := (hV.block W.heap.size (by simp) (fun e => by have := hD _ e; omega)).trans h1
  refine ⟨⟨by rw [← List.map_eq_flatMap, List.length_map, Nat.mul_one], fun _ => ⟨_, _, rfl, fun j u hu => ?_⟩⟩, hu, by omega⟩
  rw [← List.map_eq_flatMap] at hu
  simp only [World.cell?, h2]
  simpa using hu
section
variable {w0 w : World} {F : World → Prop}
set_option maxRecDepth 100000 in
set_option maxHeartbeats 32000000 in
theorem awake19_st (hK : Hid (St w0 w F)) : Calls Tryz.prog 38 #[] w (RetV w0 (.bool true) F) := by
  obtain ⟨z, hz⟩ : ∃ z, z = zeroT := ⟨_, rfl⟩
  have HZ : Hid ((Tryz.prog.info? 49).map (fun i => i.zero) = some (some (.agg z))) := Lib.hid (by rw [hz]; exact info_tabZ)
  have HZS : Hid (z.size = 259) := Lib.hid (by rw [hz]; exact zeroT_size)
  clear hz
  have kc := fun (w : World) (C : Array Value) (n c : Nat) => Lib.run_convert_bytes_const (P := Tryz.prog) w 79 5 C n c Tryz.underlying79 Tryz.underlying5
  go_enter Tryz.func38, Tryz.ntmps38
  go_wp2_with fail
  refine (held19_st hK).mono ?_
  rintro e w1 ⟨b, rfl, HK1⟩
  go_wp2_with fail
  refine (compile_st HK1 (heldI b) (fun _ h => h.1) (held_stage b)).mono ?_
  rintro e w2 ⟨cs, T, v, rfl, HTC, HK2, HSD⟩
  obtain ⟨rfl, hT⟩ := held_said (heldI_L b) HSD.out
  have HT := Lib.hid hT
  have HCS : Hid ((Tryz.prog.info? 49).map (·.size) = some cs.size) := Lib.hid (by rw [HTC.out.size]; exact info_tabS)
  have HCZ : Hid (z.size = cs.size) := Lib.hid (by rw [HZS.out, HTC.out.size])
  have HC1 := Lib.hid (cells_one HTC.out)
  have HK3 := tab_box17 (cs := cs) HK2 z
  clear HSD hT
  obtain ⟨w3, hw3⟩ : ∃ z', (w2.alloc (.cells z 49)).setRow w2.heap.size cs = z' := ⟨_, rfl⟩
  rw [hw3] at HK3
  go_wp2_with (first
    | (refine wpList_allocZ rfl 49 rfl z HZ.out ?_)
    | (refine wpList_store_row rfl 49 _ _ rfl w2.heap.size cs rfl rfl 49 z (heap_alloc_new w2 _) HCS.out HCZ.out HC1.out ?_))
  have HCK : Hid (pB (TabOk T.L) = true) := Lib.hid (by rw [HT.out]; exact pB_true heldT_ok)
  have HSM : Hid (SmallT T.L) := Lib.hid (by rw [HT.out]; exact heldT_small)
  (try rw [hw3])
  refine wp_load_row 49 _ rfl w2.heap.size rfl _ cs _ _ HK3.out.now.1 Tryz.underlying49 rfl HCS.out ?_
  go_wp2_with fail
  refine (new_st w3 cs T HTC.out HK3.out.now.2.1 HSM.out true HCK).mono ?_
  rintro e w4 (⟨h, -⟩ | ⟨-, db, cs', T', rfl, HT', HD, HDP, HB4, hdb⟩)
  · cases h
  have HTL : Hid (T'.L = heldT) := Lib.hid (HT'.out.2.trans HT.out)
  have HD0 : Hid (DrvK (fun k => k = db) db cs' T' s00 none 0 w4) := Lib.hid (drvNew HT'.out.1 (by rw [HTL.out]; exact heldT_ok) HD.out HDP.out)
  have HDB : Hid (w3.heap.size ≤ db ∧ db < w4.heap.size) := Lib.hid ⟨hdb, HD.out.lt⟩
  clear hdb hw3 HD HDP
  obtain ⟨w5, hw5⟩ : ∃ z, w4.alloc (.cells #[.int .u8 97] 5 (1, 2)) = z := ⟨_, rfl⟩
  have hb5 : Below w4.heap.size w4 w5 := by rw [← hw5]; exact (Below.refl _ _).alloc (Nat.le_refl _) _
  have HD1 : Hid (DrvK (fun k => k = db) db cs' T' s00 none 0 w5) := Lib.hid (HD0.out.step (BelD.of_below hb5) (hb5.block _ HDB.out.2))
  have HB1 : Hid (∀ V, BelD (fun k => k = db) w5 V → BytesAt (some ⟨w4.heap.size, 0, none⟩) [97] V) := Lib.hid (by
    rw [← hw5]
    exact bytes_new w4 [97] (by intro x hx; simp at hx; omega) (by simp) (1, 2) (fun k (e : k = db) => by rw [e]; exact HDB.out.2))
  have HB5 := Lib.hid hb5
  clear hb5
  go_wp2_with fail
  (try rw [hw5])
  refine (Write_st HD1 1 HB1 (by simp)).mono ?_
  rintro e w6 ⟨A6, c6, ha6, hc6, rfl, HK6, HB6, HY6, HR6, -⟩
  rw [HTL.out, wrS_a] at HK6 HY6 HR6
  rw [HTL.out, wrS_a]
  clear hw5
  go_wp2_with fail
  have HSZ : Hid (cs'.size = 259) := Lib.hid HK6.out.tc.size
  have HS6 : Hid (Sl w6 1 ha6 [(97 : Int)].length (([97] : List Int).map (Value.int .u8))) := Lib.hid (by
    have h := (HK6.out.dep w6 (BelD.refl _ _)).2.sl
    rwa [← List.map_eq_flatMap] at h)
  refine (Held_st (h := [97]) HK6.out.box HSZ.out HS6.out (by simp)).mono ?_
  rintro e w7 ⟨A7, c7, rfl, HO7, HB7⟩
  have hcv := run_conv_str (P := Tryz.prog) w7 79 5 Tryz.underlying79 Tryz.underlying5 A7 1 c7 [97] (Sl.of_own HO7.out) 9 Tryz.underlying9
  obtain ⟨w8, hw8⟩ : ∃ z, w7.alloc (.cells #[.int .u8 98] 5 (1, 2)) = z := ⟨_, rfl⟩
  have hb8 : Below w7.heap.size w7 w8 := by rw [← hw8]; exact (Below.refl _ _).alloc (Nat.le_refl _) _
  have HB8 : Hid (Below w6.heap.size w6 w8) := Lib.hid (HB7.out.trans (hb8.mono HB7.out.size))
  have hd6 : db < w6.heap.size := HK6.out.box.lt
  have HD8 : Hid (DrvK (fun k => k = db) db cs' T' (⟨1, [97], false⟩, false) ha6 hc6 w8) := Lib.hid (HK6.out.step (BelD.of_below HB8.out) (HB8.out.block _ hd6))
  have HB9 : Hid (∀ V, BelD (fun k => k = db) w8 V → BytesAt (some ⟨w7.heap.size, 0, none⟩) [98] V) := Lib.hid (by
    rw [← hw8]
    exact bytes_new w7 [98] (by intro x hx; simp at hx; omega) (by simp) (1, 2) (fun k (e : k = db) => by rw [e]; have := HB7.out.size; omega))
  clear hb8 hd6
  go_wp2_with fail
  (try rw [hw8])
  refine (Write_st HD8 1 HB9 (by simp)).mono ?_
  rintro e w9 ⟨A9, c9, ha9, hc9, rfl, HK9, HB10, HY9, HR9, -⟩
  rw [HTL.out, wrS_b] at HK9 HY9 HR9
  rw [HTL.out, wrS_b]
  clear hw8 hcv
  have hcv := run_conv_str (P := Tryz.prog) w9 79 5 Tryz.underlying79 Tryz.underlying5 A9 1 c9 [120] (Sl.of_own HR9.out) 9 Tryz.underlying9
  have t97 : (strOfNums [97]).toList = [97] := by decide +kernel
  have t120 : (strOfNums [120]).toList = [120] := by decide +kernel
  have HBX : Hid (DrvB db cs' 0 ha9 hc9 [] 2 w9) := Lib.hid HK9.out.box
  go_wp2_with fail
  refine (Node_st HBX.out HSZ.out).mono ?_
  rintro e w10 ⟨rfl, rfl⟩
  go_wp2_with fail
  go_ret
  refine ⟨rfl, Lib.hid ((HK3.out.weaken fun _ h => h.2.2.2).step ?_)⟩
  have hn : ∀ k, k = db → w3.heap.size ≤ k := fun k e => by rw [e]; exact HDB.out.1
  have q5 : Below w3.heap.size w3 w5 := HB4.out.trans (HB5.out.mono HB4.out.size)
  have q6 : Below w3.heap.size w3 w6 := q5.trans (HB6.out.below hn q5.size)
  have q8 : Below w3.heap.size w3 w8 := q6.trans (HB8.out.mono q6.size)
  exact q8.trans (HB10.out.below hn q8.size)
end
end Go.Proofs.YtlmkokeapbleoaaGreat
end
section
namespace Go.Proofs.YtlmkokeapbleoaaGreat
open Go.RowKit
set_option linter.unusedVariables false
set_option linter.unusedSimpArgs false
/-- an operation: a chunk, or the end -/
structure OpI where
  a : Option Addr
  c : Nat
  b : List Int
  cl : Bool
def opC (o : OpI) : List Value := [.slice o.a o.b.length o.c, .bool o.cl]
def OpW (o : OpI) (W : World) : Prop := BytesAt o.a o.b W
def OpsAt (A : Option Addr) (l : List OpI) (W : World) : Prop := RowsAt 2 opC OpW A l W
theorem OpW.stays : Stays OpW := fun i w w' h hb => BytesAt.below h hb
theorem OpsAt.below {A : Option Addr} {l : List OpI} {w w' : World} (h : OpsAt A l w) (hb : Below w.heap.size w w') : OpsAt A l w' := RowsAt.below h OpW.stays hb
theorem OpsAt.at_ {A : Option Addr} {l : List OpI} {W : World} (h : OpsAt A l W) {j : Nat} (hj : j < l.length) : ∃ b off o, A = some ⟨b, off, none⟩ ∧ l[j]? = some o ∧ OpW o W ∧ W.cell? ⟨b, off + j * 2, none⟩ = some (.slice o.a o.b.length o.c) ∧ W.cell? ⟨b, off + j * 2 + 1, none⟩ = some (.bool o.cl) := by
  obtain ⟨b, off, p, hA, hp, hc, hw⟩ := RowsAt.at_ h (fun _ => rfl) hj
  exact ⟨b, off, p, hA, hp, hw, hc 0 _ rfl, hc 1 _ rfl⟩
/-- how much is written in all, 2000 of a chunk at most -/
def sumO (l : List OpI) : Nat := (l.map fun o => min o.b.length 2000).sum
def GreatO (T : TabL) (l : List OpI) : Prop := ¬ SmallT T ∨ 60 < l.length ∨ 600 < sumO l
section
variable {w0 w : World} {F : World → Prop}
set_option maxRecDepth 100000 in
set_option maxHeartbeats 32000000 in
theorem great19_st (hK : Hid (St w0 w F)) (cs : Array Value) (T : TabI) (hC : TabC cs T) (ht : ∀ W, F W → TabW T W) {A : Option Addr} {l : List OpI} (hl : ∀ W, F W → OpsAt A l W) (c : Nat) (v : Bool) (hv : Hid (pB (GreatO T.L l) = v)) :
    Calls Tryz.prog 37 #[.agg cs, .slice A l.length c] w (RetV w0 (.bool v) F) := by
  have HT := Lib.hid ht
  have HLS := Lib.hid hl
  have HC := Lib.hid hC
  have HK := St.tbox hK cs
  have HI : Hid ((Tryz.prog.info? 49).map (·.size) = some cs.size) := Lib.hid (by rw [hC.size]; exact info_tabS)
  have hln := (HLS.out _ HK.out.now.2).ln
  obtain ⟨wa, hwa⟩ : ∃ z, w.alloc (.cells cs 49) = z := ⟨_, rfl⟩
  rw [hwa] at HK
  clear ht hl hC
  go_enter Tryz.func37, Tryz.ntmps37
  go_wp2_with fail
  (try rw [hwa])
  clear hwa
  go_loop [5, 6] (fun n i => ∃ (k m : Nat), k ≤ l.length ∧ k ≤ 61 ∧ i = .int .i64 k ∧ n = .int .i64 (m : Int) ∧ m ≤ 2000 * k ∧ Hid (m = sumO (l.take k))) (fun _ i => 62 - (intOf i).toNat)
  case atStart => exact ⟨0, 0, Nat.zero_le _, by omega, rfl, rfl, by omega, Lib.hid (by simp [sumO])⟩
  case round =>
  obtain ⟨k, m, hk, hk61, rfl, rfl, hm, HM⟩ := hrel
  by_cases hgo : k < l.length ∧ k ≤ 60
  · obtain ⟨hlt, h60⟩ := hgo
    obtain ⟨b, off, o, rfl, hx, hw, p0, p1⟩ := (HLS.out _ HK.out.now.2).at_ hlt
    obtain ⟨q, hq⟩ : ∃ q : Nat, min o.b.length 2000 = q := ⟨_, rfl⟩
    have hqi : min (o.b.length : Int) 2000 = (q : Int) := by omega
    have hq2 : q ≤ 2000 := by omega
    have hol := hw.ln
    have HM2 : Hid (m + q = sumO (l.take (k + 1))) := Lib.hid (by
      unfold sumO
      rw [sum_take (fun o : OpI => min o.b.length 2000) hx, hq, HM.out]; rfl)
    have h60i : (k : Int) ≤ 60 := by omega
    have hlti : (k : Int) < (l.length : Int) := by omega
    clear hx hw hq
    go_wp2_with fail
    go_round
    case rel => exact ⟨k + 1, m + q, by omega, by omega, by go_num, by go_num, by omega, HM2⟩
    case measure => simp [intOf]; omega
  obtain ⟨s, hs⟩ : ∃ s, pB (SmallT T.L) = s := ⟨_, rfl⟩
  have HSS := Lib.hid hs
  have HV : Hid (v = if s = false then true else if 60 < l.length then true else decide (600 < m)) := Lib.hid (by
    rw [← hv.out]
    rcases s with _ | _
    · rw [if_pos rfl]
      exact pB_true (.inl fun h => by rw [pB_true h] at hs; cases hs)
    · rw [if_neg (by simp)]
      by_cases h6 : 60 < l.length
      · rw [if_pos h6]; exact pB_true (.inr (.inl h6))
      · rw [if_neg h6]
        have hkl : k = l.length := by omega
        have hmm : m = sumO l := by rw [HM.out, hkl, List.take_length]
        by_cases h7 : 600 < m
        · rw [decide_eq_true h7]; exact pB_true (.inr (.inr (by omega)))
        · rw [decide_eq_false h7]
          exact pB_false fun h => by
            rcases h with h | h | h
            · exact h (pB_iff.1 hs)
            · exact h6 h
            · omega)
  have HGO : Hid (¬ (k < l.length ∧ k ≤ 60)) := Lib.hid hgo
  clear hs hgo HM
  by_cases h1 : k < l.length
  · have h2 : ¬ k ≤ 60 := fun h2 => HGO.out ⟨h1, h2⟩
    obtain rfl : k = 61 := by omega
    have h1i : ((61 : Nat) : Int) < (l.length : Int) := by omega
    have h6 : (60 : Int) < (l.length : Int) := by omega
    obtain rfl : v = true := (by rw [HV.out, if_pos (show 60 < l.length by omega)]; simp)
    clear h2
    go_wp2_with (first
      | (refine wpList_load_row rfl 49 _ rfl w.heap.size rfl _ cs _ _ HK.out.now.1 Tryz.underlying49 rfl HI.out ?_)
      | (go_at_call 32; refine (Small_st HK cs T HC.out (fun _ h => HT.out _ h.2) s HSS).mono ?_; rintro e w2 ⟨rfl, HK2⟩))
    all_goals
      go_ret
      exact ⟨rfl, Lib.hid (HK2.out.weaken fun _ h => h.2)⟩
  obtain rfl : k = l.length := by omega
  have hd : decide (l.length < l.length) = false := by simp
  rcases s with _ | _
  · obtain rfl : v = true := (by rw [HV.out]; rfl)
    go_wp2_with (first
      | (refine wpList_load_row rfl 49 _ rfl w.heap.size rfl _ cs _ _ HK.out.now.1 Tryz.underlying49 rfl HI.out ?_)
      | (go_at_call 32; refine (Small_st HK cs T HC.out (fun _ h => HT.out _ h.2) false HSS).mono ?_; rintro e w2 ⟨rfl, HK2⟩))
    go_ret
    exact ⟨rfl, Lib.hid (HK2.out.weaken fun _ h => h.2)⟩
  by_cases h6 : 60 < l.length
  · obtain rfl : v = true := (by rw [HV.out, if_neg (by simp), if_pos h6])
    have h6i : (60 : Int) < (l.length : Int) := by omega
    go_wp2_with (first
      | (refine wpList_load_row rfl 49 _ rfl w.heap.size rfl _ cs _ _ HK.out.now.1 Tryz.underlying49 rfl HI.out ?_)
      | (go_at_call 32; refine (Small_st HK cs T HC.out (fun _ h => HT.out _ h.2) true HSS).mono ?_; rintro e w2 ⟨rfl, HK2⟩))
    go_ret
    exact ⟨rfl, Lib.hid (HK2.out.weaken fun _ h => h.2)⟩
  have hg6 : decide ((60 : Int) < (l.length : Int)) = false := by simp; omega
  have h6i : ¬ (60 : Int) < (l.length : Int) := by omega
  by_cases h7 : 600 < m
  · obtain rfl : v = true := (by rw [HV.out, if_neg (by simp), if_neg h6, decide_eq_true h7])
    have h7i : (600 : Int) < (m : Int) := by omega
    go_wp2_with (first
      | (refine wpList_load_row rfl 49 _ rfl w.heap.size rfl _ cs _ _ HK.out.now.1 Tryz.underlying49 rfl HI.out ?_)
      | (go_at_call 32; refine (Small_st HK cs T HC.out (fun _ h => HT.out _ h.2) true HSS).mono ?_; rintro e w2 ⟨rfl, HK2⟩))
    go_ret
    exact ⟨rfl, Lib.hid (HK2.out.weaken fun _ h => h.2)⟩
  · obtain rfl : v = false := (by rw [HV.out, if_neg (by simp), if_neg h6, decide_eq_false h7])
    have hg7 : decide ((600 : Int) < (m : Int)) = false := by simp; omega
    have h7i : ¬ (600 : Int) < (m : Int) := by omega
    go_wp2_with (first
      | (refine wpList_load_row rfl 49 _ rfl w.heap.size rfl _ cs _ _ HK.out.now.1 Tryz.underlying49 rfl HI.out ?_)
      | (go_at_call 32; refine (Small_st HK cs T HC.out (fun _ h => HT.out _ h.2) true HSS).mono ?_; rintro e w2 ⟨rfl, HK2⟩))
    go_ret
    exact ⟨rfl, Lib.hid (HK2.out.weaken fun _ h => h.2)⟩
end
end Go.Proofs.YtlmkokeapbleoaaGreat
end
section
namespace Go.Proofs.YtlmkokeapbleoaaGreat
open Go.RowKit Go.ChangeShapes Go.WideShapes Go.Deep
set_option linter.unusedVariables false
section
variable {H : Type} {enc : TypeId × Value → H} {W : World} {base : Nat} {spare : Nat → Bool} {held : Bool}
/-- what is read at type t is some a's cells, and R holds of it -/
def OpensAs (enc : TypeId × Value → H) (W : World) (base : Nat) (spare : Nat → Bool) (held : Bool) (t : TypeId) {α : Type} (f : α → List Value) (R : α → World → Prop) : Prop :=
  ∀ (fuel : Nat) (cs : List Value) (x : DataW H × List MemPlace), DataW.trod enc Tryz.prog W base spare held fuel t cs = some x → ∃ a, cs = f a ∧ R a W
theorem opens_int : OpensAs enc W base spare held 3 (fun z => [Value.int .i64 z]) (fun z _ => I64 z) := fun fuel cs x h => by
  obtain ⟨z, e, _, w⟩ := DataW.trod_int Tryz.underlying3 h
  exact ⟨z, e, I64.of_wf w⟩
theorem add_none (b off k : Nat) : (⟨b, off, none⟩ : Addr).add k = ⟨b, off + k, none⟩ := by unfold Addr.add; split <;> simp_all
theorem opens_slice {t e : TypeId} {α : Type} {size : Nat} {f : α → List Value} {R : α → World → Prop} (ht : Tryz.prog.underlying t = some (.slice e)) (hce : Tryz.prog.cellsOf e = size) (hs : 0 < size) (hf : ∀ a, (f a).length = size)
    (he : OpensAs enc W base spare held e f R) {fuel : Nat} {cs : List Value} {x : DataW H × List MemPlace} (h : DataW.trod enc Tryz.prog W base spare held fuel t cs = some x) :
    ∃ A L c, cs = [Value.slice A L.length c] ∧ RowsAt size f R A L W ∧ L.length ≤ c ∧ c ≤ 9223372036854775807 := by
  rcases open_slice ht h with ⟨hcs, _⟩ | ⟨b, len, cap, m, n, D, Pl, hcs, _, hl, hm, hmm, _, hc⟩
  · exact ⟨none, [], 0, hcs, RowsAt.nil_ _ _ _ _ _, Nat.le_refl _, by omega⟩
  · have hlm : len ≤ m := by rw [hmm]; split <;> omega
    unfold maxLen at hm
    rcases Nat.eq_zero_or_pos len with h0 | hpos
    · subst h0
      exact ⟨some b, [], cap, hcs, RowsAt.nil_ _ _ _ _ _, Nat.zero_le _, hm⟩
    have each : ∀ i, ∃ a : α, i < len → ((∀ j u, (f a)[j]? = some u → W.cell? (b.add (i * size + j)) = some u) ∧ R a W) := by
      intro i
      obtain ⟨cs0, h10, h20⟩ := hc 0 (by omega)
      obtain ⟨a0, e0, r0⟩ := he _ _ _ h20
      by_cases hi : i < len
      · obtain ⟨cs', h1, h2⟩ := hc i (by omega)
        rw [hce] at h1
        obtain ⟨_, hlen, hat⟩ := World.cells?_some h1
        obtain ⟨a, rfl, r⟩ := he _ _ _ h2
        refine ⟨a, fun _ => ⟨fun j u hu => ?_, r⟩⟩
        have hj : j < size := by have := (List.getElem?_eq_some_iff.1 hu).1; rwa [hf] at this
        have := hat j (by omega)
        rw [Go.Deep.add_add] at this
        rw [this, hu]
      · exact ⟨a0, fun g => absurd g hi⟩
    obtain ⟨q, hq⟩ := Classical.skolem.1 each
    have hL : ((List.range len).map q).length = len := by simp
    refine ⟨some b, (List.range len).map q, cap, by rw [hL]; exact hcs, ⟨⟨?_, fun _ => ?_⟩, fun a ha => ?_, by rw [hL]; omega⟩, by rw [hL]; exact hl, hm⟩
    · rw [hL]
      have : ∀ l : List α, (l.flatMap f).length = l.length * size := by
        intro l; induction l with
        | nil => simp
        | cons y l ih => rw [List.flatMap_cons, List.length_append, ih, hf, List.length_cons, Nat.succ_mul]; omega
      rw [this, hL]
    · obtain ⟨bb, off, spot⟩ := b
      have hu0 : ∃ u, (f (q 0))[0]? = some u := ⟨(f (q 0))[0]'(by rw [hf]; exact hs), by simp [hf, hs]⟩
      obtain ⟨u0, hu0⟩ := hu0
      have h0 := (hq 0 hpos).1 0 u0 hu0
      have hs0 : spot = none := by simpa [Addr.add] using World.cell?_spot h0
      subst hs0
      refine ⟨bb, off, rfl, fun j u hu => ?_⟩
      have hjl : j < len * size := by
        have := (List.getElem?_eq_some_iff.1 hu).1
        have h2 : ∀ l : List α, (l.flatMap f).length = l.length * size := by
          intro l; induction l with
          | nil => simp
          | cons y l ih => rw [List.flatMap_cons, List.length_append, ih, hf, List.length_cons, Nat.succ_mul]; omega
        rw [h2, hL] at this; exact this
      have hdm := Nat.div_add_mod j size
      have hdl : j / size < len := (Nat.div_lt_iff_lt_mul hs).2 hjl
      have hmod := Nat.mod_lt j hs
      have hx : ((List.range len).map q)[j / size]? = some (q (j / size)) := by simp [hdl]
      obtain ⟨u', hu'⟩ : ∃ u', (f (q (j / size)))[j % size]? = some u' := ⟨(f (q (j / size)))[j % size]'(by rw [hf]; exact hmod), by simp [hf, hmod]⟩
      have h3 := flatMap_at hf hx hu'
      rw [Nat.mul_comm, hdm] at h3
      obtain rfl : u' = u := Option.some.inj (h3.symm.trans hu)
      have := (hq _ hdl).1 _ _ hu'
      rw [Nat.mul_comm, hdm, add_none] at this
      exact this
    · obtain ⟨r, hr, rfl⟩ := List.mem_map.1 ha
      exact (hq r (List.mem_range.1 hr)).2
end
end Go.Proofs.YtlmkokeapbleoaaGreat
end
section
namespace Go.Proofs.YtlmkokeapbleoaaGreat
open Go.RowKit Go.ChangeShapes Go.WideShapes Go.Deep
set_option linter.unusedVariables false
set_option linter.unusedSimpArgs false
set_option maxRecDepth 100000
theorem list3 {α : Type} {l : List α} (h : l.length = 3) : ∃ a b c, l = [a, b, c] := by
  match l, h with
  | [a, b, c], _ => exact ⟨a, b, c, rfl⟩
theorem list4 {α : Type} {l : List α} (h : l.length = 4) : ∃ a b c d, l = [a, b, c, d] := by
  match l, h with
  | [a, b, c, d], _ => exact ⟨a, b, c, d, rfl⟩
theorem list6 {α : Type} {l : List α} (h : l.length = 6) : ∃ a b c d e f, l = [a, b, c, d, e, f] := by
  match l, h with
  | [a, b, c, d, e, f], _ => exact ⟨a, b, c, d, e, f, rfl⟩
section
variable {H : Type} {enc : TypeId × Value → H} {W : World} {base : Nat} {spare : Nat → Bool} {held : Bool}
theorem opens_part : OpensAs enc W base spare held 70 partC (fun p _ => PartW p) := fun fuel cs x h => by
  obtain ⟨xs, n, _, rfl, hl, hlen, hf⟩ := DataW.trod_struct Tryz.underlying70 h
  rw [show Tryz.prog.cellsOf 70 = 4 from by kernel_rfl] at hl
  obtain ⟨c0, c1, c2, c3, rfl⟩ := list4 hl
  obtain ⟨x0, x1, x2, x3, rfl⟩ := list4 hlen
  have h0 : DataW.trod enc Tryz.prog W base spare held n 3 [c0] = some x0 := by have := hf 0 _ rfl; simpa [show Tryz.prog.cellsOf 3 = 1 from by kernel_rfl] using this
  have h1 : DataW.trod enc Tryz.prog W base spare held n 3 [c1] = some x1 := by have := hf 1 _ rfl; simpa [show Tryz.prog.cellsOf 3 = 1 from by kernel_rfl] using this
  have h2 : DataW.trod enc Tryz.prog W base spare held n 3 [c2] = some x2 := by have := hf 2 _ rfl; simpa [show Tryz.prog.cellsOf 3 = 1 from by kernel_rfl] using this
  have h3 : DataW.trod enc Tryz.prog W base spare held n 3 [c3] = some x3 := by have := hf 3 _ rfl; simpa [show Tryz.prog.cellsOf 3 = 1 from by kernel_rfl] using this
  obtain ⟨z0, e0, w0⟩ := opens_int _ _ _ h0
  obtain ⟨z1, e1, w1⟩ := opens_int _ _ _ h1
  obtain ⟨z2, e2, w2⟩ := opens_int _ _ _ h2
  obtain ⟨z3, e3, w3⟩ := opens_int _ _ _ h3
  simp only [List.cons.injEq, and_true] at e0 e1 e2 e3
  exact ⟨(z0, z1, z2, z3), by rw [e0, e1, e2, e3]; rfl, ⟨w0, w1, w2, w3⟩⟩
theorem open_parts {fuel : Nat} {cs : List Value} {x : DataW H × List MemPlace} (h : DataW.trod enc Tryz.prog W base spare held fuel 66 cs = some x) :
    ∃ A L c, cs = [Value.slice A L.length c] ∧ PartsAt A L W ∧ L.length ≤ c ∧ c ≤ 9223372036854775807 := opens_slice (size := 4) Tryz.underlying66 (by kernel_rfl) (by decide) (fun _ => rfl) opens_part h
theorem opens_term : OpensAs enc W base spare held 68 termC TermW := fun fuel cs x h => by
  obtain ⟨xs, n, _, rfl, hl, hlen, hf⟩ := DataW.trod_struct Tryz.underlying68 h
  rw [show Tryz.prog.cellsOf 68 = 6 from by kernel_rfl] at hl
  obtain ⟨c0, c1, c2, c3, c4, c5, rfl⟩ := list6 hl
  obtain ⟨x0, x1, x2, x3, x4, x5, rfl⟩ := list6 hlen
  have h0 : DataW.trod enc Tryz.prog W base spare held n 3 [c0] = some x0 := by have := hf 0 _ rfl; simpa [show Tryz.prog.cellsOf 3 = 1 from by kernel_rfl] using this
  have h1 : DataW.trod enc Tryz.prog W base spare held n 3 [c1] = some x1 := by have := hf 1 _ rfl; simpa [show Tryz.prog.cellsOf 3 = 1 from by kernel_rfl] using this
  have h2 : DataW.trod enc Tryz.prog W base spare held n 3 [c2] = some x2 := by have := hf 2 _ rfl; simpa [show Tryz.prog.cellsOf 3 = 1 from by kernel_rfl] using this
  have h3 : DataW.trod enc Tryz.prog W base spare held n 3 [c3] = some x3 := by have := hf 3 _ rfl; simpa [show Tryz.prog.cellsOf 3 = 1 from by kernel_rfl] using this
  have h4 : DataW.trod enc Tryz.prog W base spare held n 3 [c4] = some x4 := by have := hf 4 _ rfl; simpa [show Tryz.prog.cellsOf 3 = 1 from by kernel_rfl] using this
  have h5 : DataW.trod enc Tryz.prog W base spare held n 66 [c5] = some x5 := by have := hf 5 _ rfl; simpa [show Tryz.prog.cellsOf 66 = 1 from by kernel_rfl] using this
  obtain ⟨z0, e0, w0⟩ := opens_int _ _ _ h0
  obtain ⟨z1, e1, w1⟩ := opens_int _ _ _ h1
  obtain ⟨z2, e2, w2⟩ := opens_int _ _ _ h2
  obtain ⟨z3, e3, w3⟩ := opens_int _ _ _ h3
  obtain ⟨z4, e4, w4⟩ := opens_int _ _ _ h4
  obtain ⟨A5, L5, C5, e5, w5, hc5, _⟩ := open_parts h5
  simp only [List.cons.injEq, and_true] at e0 e1 e2 e3 e4 e5
  exact ⟨⟨z0, z1, z2, z3, z4, A5, C5, L5⟩, by rw [e0, e1, e2, e3, e4, e5]; rfl, ⟨⟨w0, w1, w2, w3, w4⟩, w5⟩⟩
theorem open_terms {fuel : Nat} {cs : List Value} {x : DataW H × List MemPlace} (h : DataW.trod enc Tryz.prog W base spare held fuel 57 cs = some x) :
    ∃ A L c, cs = [Value.slice A L.length c] ∧ TermsAt A L W ∧ L.length ≤ c ∧ c ≤ 9223372036854775807 := opens_slice (size := 6) Tryz.underlying57 (by kernel_rfl) (by decide) (fun _ => rfl) opens_term h
theorem opens_out : OpensAs enc W base spare held 57 (fun o => [OutI.v o]) OutW := fun fuel cs x h => by
  obtain ⟨A, L, c, e, w, _, _⟩ := open_terms h
  exact ⟨⟨A, c, L⟩, e, w⟩
theorem open_outs {fuel : Nat} {cs : List Value} {x : DataW H × List MemPlace} (h : DataW.trod enc Tryz.prog W base spare held fuel 47 cs = some x) :
    ∃ A L c, cs = [Value.slice A L.length c] ∧ EndsAt A L W ∧ L.length ≤ c ∧ c ≤ 9223372036854775807 := opens_slice (size := 1) Tryz.underlying47 (by kernel_rfl) (by decide) (fun _ => rfl) opens_out h
theorem open_intsR {fuel : Nat} {cs : List Value} {x : DataW H × List MemPlace} (h : DataW.trod enc Tryz.prog W base spare held fuel 62 cs = some x) :
    ∃ A L c, cs = [Value.slice A L.length c] ∧ IntsAt A L W ∧ L.length ≤ c ∧ c ≤ 9223372036854775807 := opens_slice (size := 1) Tryz.underlying62 (by kernel_rfl) (by decide) (fun _ => rfl) opens_int h
theorem opens_node : OpensAs enc W base spare held 64 nodeC NodeW := fun fuel cs x h => by
  obtain ⟨xs, n, _, rfl, hl, hlen, hf⟩ := DataW.trod_struct Tryz.underlying64 h
  rw [show Tryz.prog.cellsOf 64 = 3 from by kernel_rfl] at hl
  obtain ⟨c0, c1, c2, rfl⟩ := list3 hl
  obtain ⟨x0, x1, x2, rfl⟩ := list3 hlen
  have h0 : DataW.trod enc Tryz.prog W base spare held n 3 [c0] = some x0 := by have := hf 0 _ rfl; simpa [show Tryz.prog.cellsOf 3 = 1 from by kernel_rfl] using this
  have h1 : DataW.trod enc Tryz.prog W base spare held n 62 [c1] = some x1 := by have := hf 1 _ rfl; simpa [show Tryz.prog.cellsOf 62 = 1 from by kernel_rfl] using this
  have h2 : DataW.trod enc Tryz.prog W base spare held n 3 [c2] = some x2 := by have := hf 2 _ rfl; simpa [show Tryz.prog.cellsOf 3 = 1 from by kernel_rfl] using this
  obtain ⟨z0, e0, w0⟩ := opens_int _ _ _ h0
  obtain ⟨A1, L1, C1, e1, w1, hc1, _⟩ := open_intsR h1
  obtain ⟨z2, e2, w2⟩ := opens_int _ _ _ h2
  simp only [List.cons.injEq, and_true] at e0 e1 e2
  exact ⟨⟨z0, A1, C1, L1, z2⟩, by rw [e0, e1, e2]; rfl, ⟨⟨w0, w2⟩, w1⟩⟩
theorem opens_act : OpensAs enc W base spare held 59 actC ActW := fun fuel cs x h => by
  obtain ⟨xs, n, _, rfl, hl, hlen, hf⟩ := DataW.trod_struct Tryz.underlying59 h
  rw [show Tryz.prog.cellsOf 59 = 3 from by kernel_rfl] at hl
  obtain ⟨c0, c1, c2, rfl⟩ := list3 hl
  obtain ⟨x0, x1, x2, rfl⟩ := list3 hlen
  have h0 : DataW.trod enc Tryz.prog W base spare held n 3 [c0] = some x0 := by have := hf 0 _ rfl; simpa [show Tryz.prog.cellsOf 3 = 1 from by kernel_rfl] using this
  have h1 : DataW.trod enc Tryz.prog W base spare held n 3 [c1] = some x1 := by have := hf 1 _ rfl; simpa [show Tryz.prog.cellsOf 3 = 1 from by kernel_rfl] using this
  have h2 : DataW.trod enc Tryz.prog W base spare held n 57 [c2] = some x2 := by have := hf 2 _ rfl; simpa [show Tryz.prog.cellsOf 57 = 1 from by kernel_rfl] using this
  obtain ⟨z0, e0, w0⟩ := opens_int _ _ _ h0
  obtain ⟨z1, e1, w1⟩ := opens_int _ _ _ h1
  obtain ⟨A2, L2, C2, e2, w2, hc2, _⟩ := open_terms h2
  simp only [List.cons.injEq, and_true] at e0 e1 e2
  exact ⟨⟨z0, z1, ⟨A2, C2, L2⟩⟩, by rw [e0, e1, e2]; rfl, ⟨⟨w0, w1⟩, w2⟩⟩
theorem open_nodes {fuel : Nat} {cs : List Value} {x : DataW H × List MemPlace} (h : DataW.trod enc Tryz.prog W base spare held fuel 45 cs = some x) :
    ∃ A L c, cs = [Value.slice A L.length c] ∧ NodesAt A L W ∧ L.length ≤ c ∧ c ≤ 9223372036854775807 := opens_slice (size := 3) Tryz.underlying45 (by kernel_rfl) (by decide) (fun _ => rfl) opens_node h
theorem open_acts {fuel : Nat} {cs : List Value} {x : DataW H × List MemPlace} (h : DataW.trod enc Tryz.prog W base spare held fuel 46 cs = some x) :
    ∃ A L c, cs = [Value.slice A L.length c] ∧ ActsAt A L W ∧ L.length ≤ c ∧ c ≤ 9223372036854775807 := opens_slice (size := 3) Tryz.underlying46 (by kernel_rfl) (by decide) (fun _ => rfl) opens_act h
theorem open_cls {fuel : Nat} {cs : List Value} {x : DataW H × List MemPlace} (h : DataW.trod enc Tryz.prog W base spare held fuel 44 cs = some x) : ∃ l : List Int, l.length = 256 ∧ U8s l ∧ cs = l.map (Value.int .u8) := by
  obtain ⟨xs, m, _, _, hl, hlen, hf⟩ := DataW.trod_array Tryz.underlying44 h
  rw [show Tryz.prog.cellsOf 44 = 256 from by kernel_rfl] at hl
  rw [show Tryz.prog.cellsOf 5 = 1 from by kernel_rfl] at hf
  have each : ∀ i, ∃ z : Int, i < 256 → (cs[i]? = some (Value.int .u8 z) ∧ 0 ≤ z ∧ z < 256) := by
    intro i
    by_cases hi : i < 256
    · have h1 := hf i hi
      rw [List.getElem?_eq_getElem (show i < xs.length by omega)] at h1
      obtain ⟨z, e, _, w⟩ := DataW.trod_int Tryz.underlying5 h1
      refine ⟨z, fun _ => ⟨?_, ?_⟩⟩
      · have := congrArg (fun l => l[0]?) e
        simpa using this
      · simp [Lit.wf, IntKind.min, IntKind.max, IntKind.signed, IntKind.bits] at w
        omega
    · exact ⟨0, fun g => absurd g hi⟩
  obtain ⟨q, hq⟩ := Classical.skolem.1 each
  refine ⟨(List.range 256).map q, by simp, fun z hz => ?_, ?_⟩
  · obtain ⟨i, hi, rfl⟩ := List.mem_map.1 hz
    exact (hq i (List.mem_range.1 hi)).2
  · refine List.ext_getElem? fun i => ?_
    by_cases hi : i < 256
    · rw [(hq i hi).1]; simp [List.getElem?_range hi]
    · rw [List.getElem?_eq_none (by omega), List.getElem?_eq_none (by simp; omega)]
theorem open_table {fuel : Nat} {cs : List Value} {x : DataW H × List MemPlace} (h : DataW.trod enc Tryz.prog W base spare held fuel 49 cs = some x) : ∃ T : TabI, TabC cs.toArray T ∧ TabW T W := by
  obtain ⟨xs, n, _, rfl, hl, hlen, hf⟩ := DataW.trod_struct Tryz.underlying49 h
  rw [show Tryz.prog.cellsOf 49 = 259 from by kernel_rfl] at hl
  obtain ⟨x0, x1, x2, x3, rfl⟩ := list4 hlen
  have h0 : DataW.trod enc Tryz.prog W base spare held n 44 (cs.take 256) = some x0 := by have := hf 0 _ rfl; simpa [show Tryz.prog.cellsOf 44 = 256 from by kernel_rfl] using this
  have h1 : DataW.trod enc Tryz.prog W base spare held n 45 ((cs.drop 256).take 1) = some x1 := by have := hf 1 _ rfl; simpa [show Tryz.prog.cellsOf 45 = 1 from by kernel_rfl] using this
  have h2 : DataW.trod enc Tryz.prog W base spare held n 46 ((cs.drop 257).take 1) = some x2 := by have := hf 2 _ rfl; simpa [show Tryz.prog.cellsOf 46 = 1 from by kernel_rfl] using this
  have h3 : DataW.trod enc Tryz.prog W base spare held n 47 ((cs.drop 258).take 1) = some x3 := by have := hf 3 _ rfl; simpa [show Tryz.prog.cellsOf 47 = 1 from by kernel_rfl] using this
  obtain ⟨l, hl1, hl2, hl3⟩ := open_cls h0
  obtain ⟨A1, L1, C1, e1, w1, _, _⟩ := open_nodes h1
  obtain ⟨A2, L2, C2, e2, w2, _, _⟩ := open_acts h2
  obtain ⟨A3, L3, C3, e3, w3, _, _⟩ := open_outs h3
  have at1 : ∀ (k : Nat) (v : Value), (cs.drop k).take 1 = [v] → cs.toArray[k]? = some v := fun k v e => by
    have := congrArg (fun z => z[0]?) e
    simpa using this
  refine ⟨⟨l, A1, C1, L1, A2, C2, L2, A3, C3, L3⟩, ⟨by simpa using hl, hl1, hl2, fun i z hz => ?_, at1 256 _ e1, at1 257 _ e2, at1 258 _ e3⟩, ⟨w1, w2, w3⟩⟩
  have hi : i < 256 := by have := (List.getElem?_eq_some_iff.1 hz).1; rw [hl1] at this; exact this
  have := congrArg (fun y => y[i]?) hl3
  simp only [List.getElem?_take, hi, if_true, List.getElem?_map, hz, Option.map_some] at this
  simpa using this
end
end Go.Proofs.YtlmkokeapbleoaaGreat
end
section
namespace Go.Proofs.YtlmkokeapbleoaaGreat
open Go.RowKit Go.ChangeShapes Go.WideShapes Go.Deep
set_option linter.unusedVariables false
section
variable {H : Type} {enc : TypeId × Value → H} {W : World} {base : Nat} {spare : Nat → Bool} {held : Bool}
theorem opens_u8 : OpensAs enc W base spare held 5 (fun z => [Value.int .u8 z]) (fun z _ => 0 ≤ z ∧ z < 256) := fun fuel cs x h => by
  obtain ⟨z, e, _, w⟩ := DataW.trod_int Tryz.underlying5 h
  refine ⟨z, e, ?_⟩
  simp [Lit.wf, IntKind.min, IntKind.max, IntKind.signed, IntKind.bits] at w
  omega
theorem open_bytes {fuel : Nat} {cs : List Value} {x : DataW H × List MemPlace} (h : DataW.trod enc Tryz.prog W base spare held fuel 79 cs = some x) :
    ∃ A L c, cs = [Value.slice A L.length c] ∧ BytesAt A L W ∧ L.length ≤ c ∧ c ≤ 9223372036854775807 := opens_slice (size := 1) Tryz.underlying79 (by kernel_rfl) (by decide) (fun _ => rfl) opens_u8 h
end
end Go.Proofs.YtlmkokeapbleoaaGreat
end
section
namespace Go.Proofs.YtlmkokeapbleoaaGreat
open Go.RowKit
set_option linter.unusedVariables false
theorem list2 {α : Type} {l : List α} (h : l.length = 2) : ∃ a b, l = [a, b] := by
  rcases l with _ | ⟨a, _ | ⟨b, _ | ⟨c, l⟩⟩⟩
  · simp at h
  · simp at h
  · exact ⟨a, b, rfl⟩
  · simp at h
section
variable {H : Type} {enc : TypeId × Value → H} {W : World} {base : Nat} {spare : Nat → Bool} {held : Bool}
theorem opens_op : OpensAs enc W base spare held 83 opC OpW := fun fuel cs x h => by
  obtain ⟨xs, n, _, rfl, hl, hlen, hf⟩ := DataW.trod_struct Tryz.underlying83 h
  rw [show Tryz.prog.cellsOf 83 = 2 from by kernel_rfl] at hl
  obtain ⟨c0, c1, rfl⟩ := list2 hl
  obtain ⟨x0, x1, rfl⟩ := list2 hlen
  have h0 : DataW.trod enc Tryz.prog W base spare held n 79 [c0] = some x0 := by have := hf 0 _ rfl; simpa [show Tryz.prog.cellsOf 79 = 1 from by kernel_rfl] using this
  have h1 : DataW.trod enc Tryz.prog W base spare held n 4 [c1] = some x1 := by have := hf 1 _ rfl; simpa [show Tryz.prog.cellsOf 4 = 1 from by kernel_rfl] using this
  obtain ⟨A0, L0, C0, e0, w0, _, _⟩ := open_bytes h0
  obtain ⟨z, e1, _⟩ := DataW.trod_bool Tryz.underlying4 h1
  simp only [List.cons.injEq, and_true] at e0 e1
  exact ⟨⟨A0, C0, L0, z⟩, by rw [e0, e1]; rfl, w0⟩
theorem open_ops {fuel : Nat} {cs : List Value} {x : DataW H × List MemPlace} (h : DataW.trod enc Tryz.prog W base spare held fuel 74 cs = some x) :
    ∃ A L c, cs = [Value.slice A L.length c] ∧ OpsAt A L W ∧ L.length ≤ c ∧ c ≤ 9223372036854775807 := opens_slice (size := 2) Tryz.underlying74 (by kernel_rfl) (by decide) (fun _ => rfl) opens_op h
end
end Go.Proofs.YtlmkokeapbleoaaGreat
end
