/- Contracts and plain laws that the proof leans on. Condition: as each theorem says. -/
import Derived.Test.YtlmkokeapbleoaaGreatP09
import Derived.Test.YtlmkokeapbleoaaGreatP06
import Derived.Test.YtlmkokeapbleoaaGreatP13
import Derived.Test.YtlmkokeapbleoaaGreatP01
import Derived.Deep.CutBlock
set_option maxRecDepth 100000
set_option maxHeartbeats 64000000
set_option linter.unusedVariables false
set_option linter.unusedSimpArgs false
namespace Go.Proofs.YtlmkokeapbleoaaGreat
open Go.RowKit
section
open Go.Shelf
def RetCl (D : Nat → Prop) (db : Nat) (cs : Array Value) (T : TabI) (s : DrvS) (W : World) (e : Ending) (W' : World) : Prop :=
 ∃ A c ha' hc', e = .returned (.tuple #[.slice A (clS T.L s).2.1.length c, .int .i64 (clS T.L s).2.2]) ∧ Hid (DrvK D db cs T (clS T.L s).1 ha' hc' W') ∧ Hid (BelD (fun k => k = db) W W') ∧ Hid (∀ V, BelD D W' V → BytesAt A (clS T.L s).2.1 V) ∧ Hid (W'.ownsRow W.heap.size 5 1 (.slice A (clS T.L s).2.1.length c) (clS T.L s).2.1.length ((clS T.L s).2.1.map (Value.int .u8))) ∧ Hid ((clS T.L s).2.1.length ≤ 64)
section
variable {D : Nat → Prop} {db : Nat} {cs : Array Value} {T : TabI} {s : DrvS} {ha : Option Addr} {hc : Nat} {W : World}
theorem end_at {T : TabI} {j : Nat} {o : OutI} (h : T.es[j]? = some o) : T.L.ends[j]? = some o.L := by
 rw [show T.L.ends = T.es.map OutI.L from rfl, List.getElem?_map, h]; rfl
theorem Close_st (HKD : Hid (DrvK D db cs T s ha hc W)) :
  Calls Tryz.prog 40 #[.pointer (some ⟨db, 0, none⟩)] W (RetCl D db cs T s W) := by
 have hs := HKD.out.tc.size
 by_cases he : errI s ≠ 0
 ·have HW : Hid (clS T.L s = (s, [], errI s)) := Lh (by unfold clS; rw [if_pos he])
  have hne : (errI s != 0) = true := by rw [bne_iff_ne]; exact he
  go_enter Tryz.func40, Tryz.ntmps40
  go_wp2_with fail
  refine (fault_st HKD.out.box hs).mono ?_
  rintro e w1 ⟨rfl, rfl⟩
  clear he
  go_wp2_with fail
  go_ret2
  refine ⟨none, 0, ha, hc, by rw [HW.out]; rfl, by rw [HW.out]; exact HKD, Lh (BelD.refl _ _), Lh fun V _ => ?_, Lh ?_, Lh (by rw [HW.out]; exact Nat.zero_le _)⟩
  ·rw [HW.out]
   exact BytesAt.nil_ _ _
  ·rw [HW.out]
   exact World.ownsRow_nil _ _ _ _
 have he0 : errI s = 0 := Classical.not_not.1 he
 obtain ⟨hrj, hcl⟩ : s.1.rej = false ∧ s.2 = false := by
  unfold errI at he0
  rcases h1 : s.1.rej with _ | _
  ·rcases h2 : s.2 with _ | _
   ·exact ⟨rfl, rfl⟩
   ·rw [h1, h2] at he0; simp at he0
  ·rw [h1] at he0; simp at he0
 obtain ⟨s0, sc0⟩ := s
 simp only at hrj hcl
 subst hcl
 have HW : Hid (clS T.L (s0, false) = if endL' T.L s0.node < 0 then ((Drv.rejd, false), [], 7) else ((s0, true), wrB (T.L.ends.getD (endL' T.L s0.node).toNat []) s0.held, 0)) := Lh (by unfold clS; rw [if_neg (by simpa using he)])
 have HRJ := Lh hrj
 have hne : (errI (s0, false) != 0) = false := by rw [he0]; rfl
 have hnl : s0.node < T.ns.length := by have := HKD.out.sok.lt; rwa [nodesL_len] at this
 have htw := (HKD.out.dep W (BelD.refl _ _)).1
 obtain ⟨nb, noff, n, hnA, hnx, hnw, m0, m1, m2⟩ := htw.nodes.at_ hnl
 have hLn : T.L.nodes[s0.node]? = some n.L := nodesL_at hnx
 have hend : endL' T.L s0.node = n.e := by unfold endL'; rw [hLn]; rfl
 have hno := HKD.out.ok.nodes n.L (List.mem_of_getElem? hLn)
 have d256 := HKD.out.box.cell (drvC_lo HKD.out.tc.c1)
 have d259 := HKD.out.box.cNode hs
 simp only at d259
 rw [hnA] at d256
 have HFA : Hid (∀ V, Below W.heap.size W V → V.cell? ⟨db, 256, none⟩ = some (.slice (some ⟨nb, noff, none⟩) T.ns.length T.nc) ∧ V.cell? ⟨db, 259, none⟩ = some (.int .i64 s0.node) ∧ V.cell? ⟨nb, noff + s0.node * 3, none⟩ = some (.int .i64 n.h) ∧ V.cell? ⟨nb, noff + s0.node * 3 + 1, none⟩ = some (.slice n.na n.nx.length n.nc) ∧ V.cell? ⟨nb, noff + s0.node * 3 + 2, none⟩ = some (.int .i64 n.e)) := Lh fun V hV =>
  ⟨(hV.cell (lt_of_cell d256)).trans d256, (hV.cell (lt_of_cell d259)).trans d259, (hV.cell (lt_of_cell m0)).trans m0, (hV.cell (lt_of_cell m1)).trans m1, (hV.cell (lt_of_cell m2)).trans m2⟩
 have HEND := Lh hend
 have HNO := Lh hno
 have hnode : (s0.node : Int) < (T.ns.length : Int) := by omega
 clear he hrj htw hnA hnx hnw m0 m1 m2 hLn hend hno d256 d259
 go_enter Tryz.func40, Tryz.ntmps40
 go_wp2_with fail
 refine (fault_st HKD.out.box hs).mono ?_
 rintro e w1 ⟨rfl, rfl⟩
 rw [he0]
 clear hne he0
 go_wp2_with fail
 refine wp_region_Z 12 (by kernel_rfl) (fun V => V.cell? ⟨db, 256, none⟩ = some (.slice (some ⟨nb, noff, none⟩) T.ns.length T.nc) ∧ V.cell? ⟨db, 259, none⟩ = some (.int .i64 s0.node) ∧ V.cell? ⟨nb, noff + s0.node * 3, none⟩ = some (.int .i64 n.h) ∧ V.cell? ⟨nb, noff + s0.node * 3 + 1, none⟩ = some (.slice n.na n.nx.length n.nc) ∧ V.cell? ⟨nb, noff + s0.node * 3 + 2, none⟩ = some (.int .i64 n.e)) (HFA.out _ (Below.refl _ W).drew) (fun hHeld => ?_)
 refine zt (v := ?_) 0 rfl ?_ ?_
 rotate_left
 ·intro w hSw; (try dsimp only at hSw); go_simp; (try with_reducible rfl)
 (try simp only [Act.put, zq1, zq2, zq3, zq4, zq5, zq6])
 refine zt (v := ?_) 1 rfl ?_ ?_
 rotate_left
 ·intro w hSw; (try dsimp only at hSw); go_simp; (try with_reducible rfl)
 (try simp only [Act.put, zq1, zq2, zq3, zq4, zq5, zq6])
 refine zt (v := ?_) 2 rfl ?_ ?_
 rotate_left
 ·intro w hSw; (try dsimp only at hSw); go_simp; (try with_reducible rfl)
 (try simp only [Act.put, zq1, zq2, zq3, zq4, zq5, zq6])
 refine zt (v := ?_) 3 rfl ?_ ?_
 rotate_left
 ·intro w hSw; (try dsimp only at hSw); go_simp; (try with_reducible rfl)
 (try simp only [Act.put, zq1, zq2, zq3, zq4, zq5, zq6])
 refine zt (v := ?_) 4 rfl ?_ ?_
 rotate_left
 ·intro w hSw; (try dsimp only at hSw); go_simp; (try with_reducible rfl)
 (try simp only [Act.put, zq1, zq2, zq3, zq4, zq5, zq6])
 refine zt (v := ?_) 5 rfl ?_ ?_
 rotate_left
 ·intro w hSw; (try dsimp only at hSw); go_simp; (try with_reducible rfl)
 (try simp only [Act.put, zq1, zq2, zq3, zq4, zq5, zq6])
 refine zt (v := ?_) 6 rfl ?_ ?_
 rotate_left
 ·intro w hSw; (try dsimp only at hSw); go_simp; (try with_reducible rfl)
 (try simp only [Act.put, zq1, zq2, zq3, zq4, zq5, zq6])
 refine zt (v := ?_) 7 rfl ?_ ?_
 rotate_left
 ·intro w hSw; (try dsimp only at hSw); go_simp; (try with_reducible rfl)
 (try simp only [Act.put, zq1, zq2, zq3, zq4, zq5, zq6])
 refine zt (v := ?_) 8 rfl ?_ ?_
 rotate_left
 ·intro w hSw; (try dsimp only at hSw); go_simp; (try with_reducible rfl)
 (try simp only [Act.put, zq1, zq2, zq3, zq4, zq5, zq6])
 refine zt (v := ?_) 9 rfl ?_ ?_
 rotate_left
 ·intro w hSw; (try dsimp only at hSw); go_simp; (try with_reducible rfl)
 (try simp only [Act.put, zq1, zq2, zq3, zq4, zq5, zq6])
 refine zt (v := ?_) 10 rfl ?_ ?_
 rotate_left
 ·intro w hSw; (try dsimp only at hSw); go_simp; (try with_reducible rfl)
 (try simp only [Act.put, zq1, zq2, zq3, zq4, zq5, zq6])
 refine zr 11 rfl fun K hK => ?_
 go_simp
 refine hK.out _ _ ((HFA.out _ ((Below.refl _ W).drew.alloc (Nat.le_refl _) _))) (fun hHeld => ?_)
 clear hK K
 (try simp only [Act.put, zq1, zq2, zq3, zq4, zq5, zq6])
 refine wpAnyZ_last (i := 12) rfl (by kernel_rfl) (by kernel_rfl) rfl (fun K hK => ?_)
 go_simp
 refine hK.out _ _ ?_
 clear hK K hHeld
 obtain ⟨w4, hw4⟩ : ∃ z, (W.alloc (.cells #[.int .i64 n.h, .slice n.na n.nx.length n.nc, .int .i64 n.e] 64)).drew = z := ⟨_, rfl⟩
 have hb4 : Below W.heap.size W w4 := by rw [← hw4]; exact ((Below.refl _ W).alloc (Nat.le_refl _) _).drew
 have hxx : w4.heap[W.heap.size]? = some (.cells #[.int .i64 n.h, .slice n.na n.nx.length n.nc, .int .i64 n.e] 64 (0, 0)) := by rw [← hw4]; exact heap_alloc_new W _
 have y2 : w4.cell? ⟨W.heap.size, 2, none⟩ = some (.int .i64 n.e) := by simp [World.cell?, hxx]
 have HB4 := Lh hb4
 have HXX := Lh hxx
 have hst : stI (s0, false) = 0 := by unfold stI; rw [HRJ.out]; rfl
 have hbox := HKD.out.box.keep (hb4.block _ HKD.out.box.lt)
 rw [hst] at hbox
 have HBOX : Hid (DrvB db cs s0.node ha hc s0.held 0 w4) := Lh hbox
 have HLT : Hid (db < W.heap.size ∧ ∀ k, D k → k < W.heap.size) := Lh ⟨HKD.out.box.lt, HKD.out.lt⟩
 clear hb4 hxx hst hbox
 by_cases hf : n.e < 0
 ·have HW2 : Hid (clS T.L (s0, false) = ((Drv.rejd, false), [], 7)) := Lh (by rw [HW.out, HEND.out, if_pos hf])
  go_wp2_with fail
  (try rw [hw4])
  refine (reject_st HBOX.out hs).mono ?_
  rintro e w5 ⟨rfl, HB5, HE5⟩
  go_wp2_with fail
  go_ret2
  have hbd : BelD (fun k => k = db) W w5 := (BelD.of_below HB4.out).trans HE5.out
  refine ⟨none, 0, none, 0, by rw [HW2.out]; rfl, Lh ?_, Lh hbd, Lh fun V _ => ?_, Lh ?_, Lh (by rw [HW2.out]; exact Nat.zero_le _)⟩
  ·rw [HW2.out]
   exact ⟨HB5.out, HKD.out.tc, HKD.out.ok, ⟨(drv_right HKD.out.ok).pos, by simp [Drv.rejd, (drv_right HKD.out.ok).zero], fun _ => rfl⟩, fun V hV => ⟨(HKD.out.dep V ((hbd.mono fun k (e : k = db) => (e ▸ HKD.out.mem : D k)).trans hV)).1, BytesAt.nil_ _ _⟩, HKD.out.mem, fun k hk => Nat.lt_of_lt_of_le (HKD.out.lt k hk) hbd.size⟩
  ·rw [HW2.out]; exact BytesAt.nil_ _ _
  ·rw [HW2.out]; exact World.ownsRow_nil _ _ _ _
 obtain ⟨fn, hfn⟩ : ∃ fn : Nat, n.e = (fn : Int) := Int.eq_ofNat_of_zero_le (by omega)
 have hfl : fn < T.es.length := by
  have h := HNO.out.1.2.2.2.2
  rw [show T.L.ends = T.es.map OutI.L from rfl, List.length_map, show n.L.fin = n.e from rfl] at h
  omega
 obtain ⟨eb, eoff, o, heA, heo, hew, ec⟩ := (HKD.out.dep W (BelD.refl _ _)).1.ends.at_ hfl
 have hLe : T.L.ends[fn]? = some o.L := end_at heo
 have HW2 : Hid (clS T.L (s0, false) = ((s0, true), wrB o.L s0.held, 0)) := Lh (by
  rw [HW.out, HEND.out, if_neg hf, hfn, Int.toNat_natCast, List.getD_eq_getElem?_getD, hLe]; rfl)
 have HTO : Hid (∀ t ∈ o.l, NumsOk t.L) := Lh fun t ht => by
  obtain ⟨l, q1, q2⟩ := HNO.out.2.1 (by rw [show n.L.fin = n.e from rfl]; omega)
  rw [show n.L.fin = n.e from rfl, hfn, Int.toNat_natCast, hLe] at q1
  injection q1 with q1
  exact (q2 t.L (by rw [← q1]; exact List.mem_map.2 ⟨t, ht, rfl⟩)).1
 have hol : o.l.length ≤ 64 := by
  have h := HKD.out.ok.ends o.L (List.mem_of_getElem? hLe)
  rwa [show o.L = o.l.map TermI.L from rfl, List.length_map] at h
 have hh4 : s0.held.length ≤ 4 := drv_len HKD.out.ok HKD.out.sok
 have f1 := HBOX.out.fz 261
 have p1 := HBOX.out.cState hs
 obtain ⟨w5, hw5⟩ : ∃ z, w4.setCell ⟨db, 261, none⟩ (.int .i64 1) = z := ⟨_, rfl⟩
 have HBX : Hid (DrvB db cs s0.node ha hc s0.held 1 w5) := Lh (by rw [← hw5]; exact HBOX.out.setState hs 1)
 have HBD : Hid (BelD (fun k => k = db) W w5) := Lh (by rw [← hw5]; exact (BelD.of_below (D := fun k => k = db) HB4.out).setCell rfl _ _)
 have e258 := HBX.out.cell (drvC_lo HKD.out.tc.c3)
 have e260 := HBX.out.cHeld hs
 rw [heA] at e258
 have ec5 : w5.cell? ⟨eb, eoff + fn, none⟩ = some (.slice o.a o.l.length o.c) := by
  obtain ⟨b', o', z, hA2, hz, -, hcz⟩ := (HKD.out.dep w5 (HBD.out.mono fun k (e : k = db) => (e ▸ HKD.out.mem : D k))).1.ends.at_ hfl
  rw [heA] at hA2
  injection hA2 with e; injection e with e1 e2; subst e1 e2
  rw [heo] at hz; injection hz with hz; subst hz
  exact hcz
 have ey : w5.cell? ⟨W.heap.size, 2, none⟩ = some (.int .i64 (fn : Int)) := by
  have h : w5.heap[W.heap.size]? = w4.heap[W.heap.size]? := by rw [← hw5]; exact heap_setCell_other _ _ _ _ (by have := HLT.out.1; show W.heap.size ≠ db; omega)
  rw [← hfn, ← y2]; exact World.cell?_of_block h
 have HFB : Hid (∀ V, Below w5.heap.size w5 V → V.cell? ⟨db, 258, none⟩ = some (.slice (some ⟨eb, eoff, none⟩) T.es.length T.ec) ∧ V.cell? ⟨db, 260, none⟩ = some (.slice ha s0.held.length hc) ∧ V.cell? ⟨eb, eoff + fn, none⟩ = some (.slice o.a o.l.length o.c) ∧ V.cell? ⟨W.heap.size, 2, none⟩ = some (.int .i64 (fn : Int))) := Lh fun V hV =>
  ⟨(hV.cell (lt_of_cell e258)).trans e258, (hV.cell (lt_of_cell e260)).trans e260, (hV.cell (lt_of_cell ec5)).trans ec5, (hV.cell (lt_of_cell ey)).trans ey⟩
 have hfi : (fn : Int) < (T.es.length : Int) := by omega
 have HEO := Lh heo
 have HDW : Hid (∀ V, BelD (OwnR none) w5.drew V → TermsAt o.a o.l V ∧ BytesAt ha s0.held V) := Lh fun V hV => by
  have h1 : BelD D W V := (HBD.out.mono fun k (e : k = db) => (e ▸ HKD.out.mem : D k)).trans ⟨hV.os, hV.tape, hV.output, hV.size, fun k hk _ => hV.block k hk (fun e => (by cases e))⟩
  have h2 := HKD.out.dep V h1
  exact ⟨h2.1.ends.it o (List.mem_of_getElem? HEO.out), h2.2⟩
 have HFN := Lh hfn
 clear heA hew ec hLe heo e258 e260 ec5 ey hfn
 go_wp2_with fail
 (try rw [hw5])
 refine wp_region_Z 15 (by kernel_rfl) (fun V => V.cell? ⟨db, 258, none⟩ = some (.slice (some ⟨eb, eoff, none⟩) T.es.length T.ec) ∧ V.cell? ⟨db, 260, none⟩ = some (.slice ha s0.held.length hc) ∧ V.cell? ⟨eb, eoff + fn, none⟩ = some (.slice o.a o.l.length o.c) ∧ V.cell? ⟨W.heap.size, 2, none⟩ = some (.int .i64 (fn : Int))) (HFB.out _ (Below.refl _ w5).drew) (fun hHeld => ?_)
 refine zt (v := ?_) 0 rfl ?_ ?_
 rotate_left
 ·intro w hSw; (try dsimp only at hSw); go_simp; (try with_reducible rfl)
 (try simp only [Act.put, zq1, zq2, zq3, zq4, zq5, zq6])
 refine zt (v := ?_) 1 rfl ?_ ?_
 rotate_left
 ·intro w hSw; (try dsimp only at hSw); go_simp; (try with_reducible rfl)
 (try simp only [Act.put, zq1, zq2, zq3, zq4, zq5, zq6])
 refine zt (v := ?_) 2 rfl ?_ ?_
 rotate_left
 ·intro w hSw; (try dsimp only at hSw); go_simp; (try with_reducible rfl)
 (try simp only [Act.put, zq1, zq2, zq3, zq4, zq5, zq6])
 refine zt (v := ?_) 3 rfl ?_ ?_
 rotate_left
 ·intro w hSw; (try dsimp only at hSw); go_simp; (try with_reducible rfl)
 (try simp only [Act.put, zq1, zq2, zq3, zq4, zq5, zq6])
 refine zt (v := ?_) 4 rfl ?_ ?_
 rotate_left
 ·intro w hSw; (try dsimp only at hSw); go_simp; (try with_reducible rfl)
 (try simp only [Act.put, zq1, zq2, zq3, zq4, zq5, zq6])
 refine zt (v := ?_) 5 rfl ?_ ?_
 rotate_left
 ·intro w hSw; (try dsimp only at hSw); go_simp; (try with_reducible rfl)
 (try simp only [Act.put, zq1, zq2, zq3, zq4, zq5, zq6])
 refine zt (v := ?_) 6 rfl ?_ ?_
 rotate_left
 ·intro w hSw; (try dsimp only at hSw); go_simp; (try with_reducible rfl)
 (try simp only [Act.put, zq1, zq2, zq3, zq4, zq5, zq6])
 refine zt (v := ?_) 7 rfl ?_ ?_
 rotate_left
 ·intro w hSw; (try dsimp only at hSw); go_simp; (try with_reducible rfl)
 (try simp only [Act.put, zq1, zq2, zq3, zq4, zq5, zq6])
 refine zt (v := ?_) 8 rfl ?_ ?_
 rotate_left
 ·intro w hSw; (try dsimp only at hSw); go_simp; (try with_reducible rfl)
 (try simp only [Act.put, zq1, zq2, zq3, zq4, zq5, zq6])
 refine zt (v := ?_) 9 rfl ?_ ?_
 rotate_left
 ·intro w hSw; (try dsimp only at hSw); go_simp; (try with_reducible rfl)
 (try simp only [Act.put, zq1, zq2, zq3, zq4, zq5, zq6])
 refine zt (v := ?_) 10 rfl ?_ ?_
 rotate_left
 ·intro w hSw; (try dsimp only at hSw); go_simp; (try with_reducible rfl)
 (try simp only [Act.put, zq1, zq2, zq3, zq4, zq5, zq6])
 refine zt (v := ?_) 11 rfl ?_ ?_
 rotate_left
 ·intro w hSw; (try dsimp only at hSw); go_simp; (try with_reducible rfl)
 (try simp only [Act.put, zq1, zq2, zq3, zq4, zq5, zq6])
 refine zt (v := ?_) 12 rfl ?_ ?_
 rotate_left
 ·intro w hSw; (try dsimp only at hSw); go_simp; (try with_reducible rfl)
 (try simp only [Act.put, zq1, zq2, zq3, zq4, zq5, zq6])
 refine zr 13 rfl fun K hK => ?_
 go_simp
 refine (dwrite_st w5.drew w5.drew.heap.size (A := none) (l := []) (c := 0) (Lh (World.ownsRow_nil _ _ _ _)) (Nat.le_refl _) o hc HDW HTO (by simp only [List.length_nil]; omega) (by omega)).mono ?_
 rintro e w6 ⟨A6, c6, rfl, HO6, HB6, HN6⟩
 have HB6B : Hid (Below w5.heap.size w5 w6) := Lh ⟨HB6.out.os, HB6.out.tape, HB6.out.output, HB6.out.size, fun k hk => HB6.out.block k hk (fun e => (by cases e))⟩
 refine hK.out _ _ ((HFB.out _ HB6B.out)) (fun hHeld => ?_)
 clear hK K
 (try simp only [Act.put, zq1, zq2, zq3, zq4, zq5, zq6])
 refine zt (v := ?_) 14 rfl ?_ ?_
 rotate_left
 ·intro w hSw; (try dsimp only at hSw); go_simp; (try with_reducible rfl)
 (try simp only [Act.put, zq1, zq2, zq3, zq4, zq5, zq6])
 refine wpAnyZ_last (i := 15) rfl (by kernel_rfl) (by kernel_rfl) rfl (fun K hK => ?_)
 go_simp
 refine hK.out _ _ ?_
 clear hK K hHeld
 go_wp2_with fail
 go_ret2
 have ho : w6.ownsRow w5.heap.size 5 1 (.slice A6 (wrB o.L s0.held).length c6) (wrB o.L s0.held).length ((wrB o.L s0.held).map (Value.int .u8)) := HO6.out
 have hbd : BelD (fun k => k = db) W w6 := HBD.out.trans (BelD.of_below HB6B.out)
 refine ⟨A6, c6, ha, hc, by rw [HW2.out]; rfl, Lh ?_, Lh hbd, Lh fun V hV => ?_, Lh ?_, Lh (by rw [HW2.out]; exact Nat.le_trans (wrB_len o.L s0.held) (by rw [show o.L.length = o.l.length from List.length_map _]; exact hol))⟩
 ·rw [HW2.out]
  have e : stI (s0, true) = 1 := by unfold stI; rw [HRJ.out]; rfl
  refine ⟨?_, HKD.out.tc, HKD.out.ok, HKD.out.sok, fun V hV => HKD.out.dep V ((hbd.mono fun k (e : k = db) => (e ▸ HKD.out.mem : D k)).trans hV), HKD.out.mem, fun k hk => Nat.lt_of_lt_of_le (HKD.out.lt k hk) hbd.size⟩
  rw [e]
  exact HBX.out.keep (HB6B.out.block _ HBX.out.lt)
 ·rw [HW2.out]
  have h1 := wrB_len o.L s0.held
  have h2 : o.L.length = o.l.length := List.length_map _
  have h3 := HBD.out.size
  refine bytes_own ho (wrB_u8 _ _) (by omega) V fun k hk => ?_
  obtain ⟨q1, q2, -⟩ := own_ty ho hk
  exact hV.block k q2 (fun e => by have := HLT.out.2 k e; omega)
 ·rw [HW2.out]
  exact own_mono ho HBD.out.size
end
end
theorem rc_end {Q : Ending → World → Prop} {a : Act} {Wx : World} {rb : Nat} {v u : Value} (hd : a.defers = []) (h2 : a.tmps.getD 2 undef = .pointer (some ⟨rb, 0, none⟩)) (h3 : a.tmps.getD 3 undef = v) (h4 : a.tmps.getD 4 undef = u) {old : Array Value} (hg : Wx.heap[rb]? = some (.cells old 81 (0, 0)))
  {C : Array Value} (hC : C.size = 263) (hq : Q (.returned (.tuple #[.agg C, v, u])) (Wx.setRow rb C)) : bodyPost Tryz.prog Tryz.f41 Q .ret a (Wx.setRow rb C) :=
 bodyPost_ret (v := .tuple #[.agg C, v, u]) (results_row3 rfl _ _ _ _ _ _ _ _ _ h2 h3 h4 (setRow_heap _ _ _ _ _ _ hg) Tryz.underlying81 rfl (by rw [hC]; exact info_refS)) hd hq
theorem rClose_st (D : Nat → Prop) (W : World) (cs : Array Value) (T : TabI) (s : DrvS) (ha : Option Addr) (hc : Nat) (HT : Hid (TabC cs T ∧ TabOk T.L ∧ Drv.Ok (heldL T.L) T.L.nodes.length s.1)) (HG0 : Hid (∀ V, Below W.heap.size W V → TabW T V)) (HH : Hid (Dep (fun k => ¬ D k) W (BytesAt ha s.1.held))) :
  Calls Tryz.prog 41 #[.agg (rdV cs s ha hc)] W (RetRW D cs (clS T.L s) W) := by
 have HG : Hid (∀ V, Below W.heap.size W V → TabW T V ∧ BytesAt ha s.1.held V) := Lh fun V hV => ⟨HG0.out V hV, HH.out.st V hV⟩
 have hs : cs.size = 259 := HT.out.1.size
 obtain ⟨z, hz⟩ : ∃ z, z = zeroR := ⟨_, rfl⟩
 have HZ : Hid ((Tryz.prog.info? 81).map (fun i => i.zero) = some (some (.agg z))) := Lh (by rw [hz]; exact info_refZ)
 have HZS : Hid (z.size = 263) := Lh (by rw [hz]; exact zeroR_size)
 clear hz
 obtain ⟨⟨s0, sc0⟩, hse⟩ : ∃ y, s = y := ⟨_, rfl⟩
 subst hse
 simp only at HT HG HH
 unfold rdV
 simp only
 obtain ⟨wa, hwa⟩ : ∃ y, W.alloc (.cells (rdC cs s0.node ha hc s0.held sc0 s0.rej) 81) = y := ⟨_, rfl⟩
 obtain ⟨wb, hwb⟩ : ∃ y, wa.alloc (.cells z 81) = y := ⟨_, rfl⟩
 have hsa : wa.heap.size = W.heap.size + 1 := by rw [← hwa]; simp
 have hsb : wb.heap.size = W.heap.size + 2 := by rw [← hwb]; simp [hsa]
 have HBA : Hid (Below W.heap.size W wa) := Lh (by rw [← hwa]; exact (Below.refl _ _).alloc (Nat.le_refl _) _)
 have HBB : Hid (Below W.heap.size W wb) := Lh (by rw [← hwb]; exact HBA.out.alloc (by omega) _)
 have HRB : Hid (RdB (W.heap.size + 1) z wb) := Lh (by rw [← hsa, ← hwb]; exact heap_alloc_new wa _)
 have HTB : Hid (RdB W.heap.size (rdC cs s0.node ha hc s0.held sc0 s0.rej) wb) := Lh (by
  have h1 : wa.heap[W.heap.size]? = some (.cells (rdC cs s0.node ha hc s0.held sc0 s0.rej) 81 (0, 0)) := by rw [← hwa]; exact heap_alloc_new W _
  rw [← hwb]
  exact (Below.heap_alloc _ _ _ (by omega)).trans h1)
 obtain ⟨C0, hC0⟩ : ∃ y, rdC cs s0.node ha hc s0.held sc0 s0.rej = y := ⟨_, rfl⟩
 have c262 := HTB.out.cRj hs
 have c261 := HTB.out.cCl hs
 have c259 := HTB.out.cNode hs
 rw [hC0] at hwa ⊢
 have HC0 := Lh hC0
 have HC0S : Hid (C0.size = 263 ∧ C0.all (·.oneCell') = true) := Lh (by rw [← hC0]; exact ⟨rdC_size hs, rdC_one HT.out.1⟩)
 have HI : Hid ((Tryz.prog.info? 81).map (·.size) = some C0.size) := Lh (by rw [HC0S.out.1]; exact info_refS)
 have HOL : Hid (z.size = C0.size) := Lh (by rw [HC0S.out.1, HZS.out])
 have HTB0 : Hid (RdB W.heap.size C0 wb) := Lh (by rw [← hC0]; exact HTB.out)
 have HSZ : Hid (wa.heap.size = W.heap.size + 1 ∧ wb.heap.size = W.heap.size + 2) := Lh ⟨hsa, hsb⟩
 clear hC0 hsb
 go_enter Tryz.func41, Tryz.ntmps41
 rcases hrj : s0.rej with _ | _
 case true =>
  rw [hrj] at c262
  have HE : Hid (clS T.L (s0, sc0) = ((s0, sc0), [], 7)) := Lh (by
   have h : errI (s0, sc0) = 7 := by unfold errI; simp [hrj]
   unfold clS; rw [if_pos (by rw [h]; decide), h])
  clear hrj
  go_wp2_with (first
   | (refine wpList_allocZ rfl 81 rfl z HZ.out ?_)
   | (refine wpList_load_row rfl 81 _ rfl W.heap.size rfl _ C0 _ _ HTB0.out Tryz.underlying81 rfl HI.out ?_)
   | (refine wpList_store_row rfl 81 _ _ rfl (W.heap.size + 1) C0 rfl rfl 81 z HRB.out HI.out HOL.out HC0S.out.2 ?_))
  refine rc_end (v := .slice none 0 0) (u := .int .i64 7) rfl rfl rfl rfl HRB.out HC0S.out.1 ⟨none, 0, ha, hc, ?_, Lh (setRow_below HBB.out (by omega) _), Lh ?_, Lh fun V hV => ?_⟩
  ·rw [HE.out]
   show _ = Ending.returned (.tuple #[.agg (rdC cs s0.node ha hc s0.held sc0 s0.rej), .slice none 0 0, .int .i64 7])
   rw [HC0.out]
  ·rw [HE.out]; exact World.ownsRow_nil _ _ _ _
  ·rw [HE.out]
   exact HH.out V fun k hk hl => by
    have q := HSZ.out
    rw [hV k hk (by simp [World.setRow]; omega), setRow_other _ _ _ _ (by omega)]
    exact HBB.out.block k hl
 rw [hrj] at c262
 have HRJ := Lh hrj
 clear hrj
 rcases hcl : sc0 with _ | _
 case true =>
  rw [hcl] at c261
  have HCL := Lh hcl
  have HE : Hid (clS T.L (s0, true) = ((s0, true), [], 8)) := Lh (by
   have h : errI (s0, true) = 8 := by unfold errI; simp [HRJ.out]
   unfold clS; rw [if_pos (by rw [h]; decide), h])
  clear hcl
  go_wp2_with (first
   | (refine wpList_allocZ rfl 81 rfl z HZ.out ?_)
   | (refine wpList_load_row rfl 81 _ rfl W.heap.size rfl _ C0 _ _ HTB0.out Tryz.underlying81 rfl HI.out ?_)
   | (refine wpList_store_row rfl 81 _ _ rfl (W.heap.size + 1) C0 rfl rfl 81 z HRB.out HI.out HOL.out HC0S.out.2 ?_))
  refine rc_end (v := .slice none 0 0) (u := .int .i64 8) rfl rfl rfl rfl HRB.out HC0S.out.1 ⟨none, 0, ha, hc, ?_, Lh (setRow_below HBB.out (by omega) _), Lh ?_, Lh fun V hV => ?_⟩
  ·rw [HE.out]
   show _ = Ending.returned (.tuple #[.agg (rdC cs s0.node ha hc s0.held true s0.rej), .slice none 0 0, .int .i64 8])
   have h := HC0.out
   rw [HCL.out] at h
   rw [h]
  ·rw [HE.out]; exact World.ownsRow_nil _ _ _ _
  ·rw [HE.out]
   exact HH.out V fun k hk hl => by
    have q := HSZ.out
    rw [hV k hk (by simp [World.setRow]; omega), setRow_other _ _ _ _ (by omega)]
    exact HBB.out.block k hl
 rw [hcl] at c261
 subst hcl
 have HW : Hid (clS T.L (s0, false) = if endL' T.L s0.node < 0 then ((Drv.rejd, false), [], 7) else ((s0, true), wrB (T.L.ends.getD (endL' T.L s0.node).toNat []) s0.held, 0)) := Lh (by
  have h : errI (s0, false) = 0 := by unfold errI; simp [HRJ.out]
  unfold clS; rw [if_neg (by rw [h]; decide)])
 have hnl : s0.node < T.ns.length := by have := HT.out.2.2.lt; rwa [nodesL_len] at this
 obtain ⟨nb, noff, n, hnA, hnx, hnw, m0, m1, m2⟩ := (HG.out wb HBB.out).1.nodes.at_ hnl
 have hLn : T.L.nodes[s0.node]? = some n.L := nodesL_at hnx
 have hend : endL' T.L s0.node = n.e := by unfold endL'; rw [hLn]; rfl
 have HNO := Lh (HT.out.2.1.nodes n.L (List.mem_of_getElem? hLn))
 have HEND := Lh hend
 have d256 := HTB.out.cell (rdC_lo HT.out.1.c1)
 rw [hnA] at d256
 have hnode : (s0.node : Int) < (T.ns.length : Int) := by omega
 clear hnA hnx hnw hLn hend
 go_upto_region 6 with (refine wpList_allocZ rfl 81 rfl z HZ.out ?_)
 (try rw [hwb])
 obtain ⟨w4, hw4⟩ : ∃ y, wb.alloc (.cells #[.int .i64 n.h, .slice n.na n.nx.length n.nc, .int .i64 n.e] 64) = y := ⟨_, rfl⟩
 rw [hw4]
 have hxx : w4.heap[wb.heap.size]? = some (.cells #[.int .i64 n.h, .slice n.na n.nx.length n.nc, .int .i64 n.e] 64 (0, 0)) := by rw [← hw4]; exact heap_alloc_new wb _
 have HB4 : Hid (Below wb.heap.size wb w4) := Lh (by rw [← hw4]; exact (Below.refl _ _).alloc (Nat.le_refl _) _)
 have y2 : w4.cell? ⟨wb.heap.size, 2, none⟩ = some (.int .i64 n.e) := by simp [World.cell?, hxx]
 have HXX := Lh hxx
 have HB4W : Hid (Below W.heap.size W w4) := Lh (HBB.out.trans (HB4.out.mono HBB.out.size))
 have HT4 : Hid (RdB W.heap.size (rdC cs s0.node ha hc s0.held false false) w4) := Lh (by
  have h := HTB.out.keep (HB4.out.block _ HTB.out.lt)
  rwa [HRJ.out] at h)
 have HR4 : Hid (RdB (W.heap.size + 1) z w4) := Lh (HRB.out.keep (HB4.out.block _ HRB.out.lt))
 clear hxx hw4 d256 m0 m1 m2 c262 c261 c259
 by_cases hf : n.e < 0
 ·have HW2 : Hid (clS T.L (s0, false) = ((Drv.rejd, false), [], 7)) := Lh (by rw [HW.out, HEND.out, if_pos hf])
  obtain ⟨CR, hCR⟩ : ∃ y, rdC cs 0 none 0 [] false true = y := ⟨_, rfl⟩
  have HCR := Lh hCR
  have HBD : Hid (Tryz.prog.built 81 [(0, .agg cs), (4, .bool true)] = some CR) := Lh (by rw [built_refR cs hs, hCR])
  have HCRS : Hid (CR.size = 263 ∧ CR.all (·.oneCell') = true) := Lh (by rw [← hCR]; exact ⟨rdC_size hs, rdC_one HT.out.1⟩)
  have HIR : Hid ((Tryz.prog.info? 81).map (·.size) = some CR.size) := Lh (by rw [HCRS.out.1]; exact info_refS)
  have HOLR : Hid (z.size = CR.size) := Lh (by rw [HCRS.out.1, HZS.out])
  have HIT : Hid ((Tryz.prog.info? 49).map (·.size) = some cs.size) := Lh (by rw [hs]; exact info_tabS)
  have HPT : Hid (∀ j v, cs[j]? = some v → w4.cell? ⟨W.heap.size, 0 + j, none⟩ = some v) := Lh fun j v h => by rw [Nat.zero_add]; exact HT4.out.cell (rdC_lo h)
  clear hCR
  go_wp2_with (first
   | (refine wpList_load_part rfl 49 _ rfl W.heap.size 0 rfl cs _ HPT.out Tryz.underlying49 rfl HIT.out ?_)
   | (refine wpList_buildD rfl 81 _ rfl [(0, .agg cs), (4, .bool true)] (by simp [go_sem]) CR HBD.out ?_)
   | (refine wpList_store_row rfl 81 _ _ rfl (W.heap.size + 1) CR rfl rfl 81 z HR4.out HIR.out HOLR.out HCRS.out.2 ?_))
  refine rc_end (v := .slice none 0 0) (u := .int .i64 7) rfl rfl rfl rfl HR4.out HCRS.out.1 ⟨none, 0, none, 0, ?_, Lh (setRow_below HB4W.out (by omega) _), Lh ?_, Lh fun V hV => ?_⟩
  ·rw [HW2.out]
   show _ = Ending.returned (.tuple #[.agg (rdC cs 0 none 0 [] false true), .slice none 0 0, .int .i64 7])
   rw [HCR.out]
  ·rw [HW2.out]; exact World.ownsRow_nil _ _ _ _
  ·rw [HW2.out]; exact BytesAt.nil_ _ _
 obtain ⟨fn, hfn⟩ : ∃ fn : Nat, n.e = (fn : Int) := Int.eq_ofNat_of_zero_le (by omega)
 have hfl : fn < T.es.length := by
  have h := HNO.out.1.2.2.2.2
  rw [show T.L.ends = T.es.map OutI.L from rfl, List.length_map, show n.L.fin = n.e from rfl] at h
  omega
 obtain ⟨w5, hw5⟩ : ∃ y, w4.setCell ⟨W.heap.size, 261, none⟩ (.bool true) = y := ⟨_, rfl⟩
 have HB5W : Hid (Below W.heap.size W w5) := Lh (by rw [← hw5]; exact setCell_below HB4W.out (Nat.le_refl _) _ _)
 have HT5 : Hid (RdB W.heap.size (rdC cs s0.node ha hc s0.held true false) w5) := Lh (by rw [← hw5]; exact HT4.out.setCl hs true)
 have hst5 : ∀ k, k ≠ W.heap.size → w5.heap[k]? = w4.heap[k]? := fun k hk => by rw [← hw5]; exact heap_setCell_other _ _ _ _ hk
 have hs5 : w5.heap.size = w4.heap.size := by rw [← hw5]; simp
 have HR5 : Hid (RdB (W.heap.size + 1) z w5) := Lh (HR4.out.keep (hst5 _ (by omega)))
 obtain ⟨eb, eoff, o, heA, heo, hew, ec⟩ := (HG.out w5 HB5W.out).1.ends.at_ hfl
 have hLe : T.L.ends[fn]? = some o.L := end_at heo
 have HW2 : Hid (clS T.L (s0, false) = ((s0, true), wrB o.L s0.held, 0)) := Lh (by
  rw [HW.out, HEND.out, if_neg hf, hfn, Int.toNat_natCast, List.getD_eq_getElem?_getD, hLe]; rfl)
 have HTO : Hid (∀ t ∈ o.l, NumsOk t.L) := Lh fun t ht => by
  obtain ⟨l, q1, q2⟩ := HNO.out.2.1 (by rw [show n.L.fin = n.e from rfl]; omega)
  rw [show n.L.fin = n.e from rfl, hfn, Int.toNat_natCast, hLe] at q1
  injection q1 with q1
  exact (q2 t.L (by rw [← q1]; exact List.mem_map.2 ⟨t, ht, rfl⟩)).1
 have hol : o.l.length ≤ 64 := by
  have h := HT.out.2.1.ends o.L (List.mem_of_getElem? hLe)
  rwa [show o.L = o.l.map TermI.L from rfl, List.length_map] at h
 have hh4 : s0.held.length ≤ 4 := drv_len HT.out.2.1 HT.out.2.2
 obtain ⟨C1, hC1⟩ : ∃ y, rdC cs s0.node ha hc s0.held true false = y := ⟨_, rfl⟩
 have HC1 := Lh hC1
 have HC1S : Hid (C1.size = 263 ∧ C1.all (·.oneCell') = true) := Lh (by rw [← hC1]; exact ⟨rdC_size hs, rdC_one HT.out.1⟩)
 have HI1 : Hid ((Tryz.prog.info? 81).map (·.size) = some C1.size) := Lh (by rw [HC1S.out.1]; exact info_refS)
 have HOL1 : Hid (z.size = C1.size) := Lh (by rw [HC1S.out.1, HZS.out])
 have e258 := HT5.out.cell (rdC_lo HT.out.1.c3)
 have e260 := HT5.out.cHeld hs
 rw [heA] at e258
 have hlt4 : wb.heap.size < w4.heap.size := (Array.getElem?_eq_some_iff.1 HXX.out).1
 have ey : w5.cell? ⟨wb.heap.size, 2, none⟩ = some (.int .i64 (fn : Int)) := by
  have h := (hst5 wb.heap.size (by have := HSZ.out; omega)).trans HXX.out
  rw [hfn] at h
  simp [World.cell?, h]
 have HFB : Hid (∀ V, Below w5.heap.size w5 V → Hid (RdB W.heap.size C1 V) ∧ V.cell? ⟨W.heap.size, 258, none⟩ = some (.slice (some ⟨eb, eoff, none⟩) T.es.length T.ec) ∧ V.cell? ⟨W.heap.size, 260, none⟩ = some (.slice ha s0.held.length hc) ∧ V.cell? ⟨eb, eoff + fn, none⟩ = some (.slice o.a o.l.length o.c) ∧ V.cell? ⟨wb.heap.size, 2, none⟩ = some (.int .i64 (fn : Int))) := Lh fun V hV =>
  ⟨Lh (by rw [← hC1]; exact HT5.out.keep (hV.block _ HT5.out.lt)), (hV.cell (lt_of_cell e258)).trans e258, (hV.cell (lt_of_cell e260)).trans e260, (hV.cell (lt_of_cell ec)).trans ec, (hV.cell (lt_of_cell ey)).trans ey⟩
 have hfi : (fn : Int) < (T.es.length : Int) := by omega
 have HGW : Hid (∀ V, Below w5.drew.heap.size w5.drew V → TermsAt o.a o.l V ∧ BytesAt ha s0.held V) := Lh fun V hV => by
  have hV2 : Below w5.heap.size w5 V := (Below.refl w5.heap.size w5).drew.trans hV
  have h2 := HG.out V (HB5W.out.trans (hV2.mono HB5W.out.size))
  exact ⟨h2.1.ends.it o (List.mem_of_getElem? heo), h2.2⟩
 have f1 := HT4.out.fz 261
 have p1 := HT4.out.cCl hs
 have HFN := Lh hfn
 clear heA heo hew ec hLe e258 e260 ey hfn hC1 hst5 hs5 hlt4
 go_upto_region 9 with fail
 (try rw [hw5])
 refine wp_region_Y 11 (by kernel_rfl) (fun V => Hid (RdB W.heap.size C1 V) ∧ V.cell? ⟨W.heap.size, 258, none⟩ = some (.slice (some ⟨eb, eoff, none⟩) T.es.length T.ec) ∧ V.cell? ⟨W.heap.size, 260, none⟩ = some (.slice ha s0.held.length hc) ∧ V.cell? ⟨eb, eoff + fn, none⟩ = some (.slice o.a o.l.length o.c) ∧ V.cell? ⟨wb.heap.size, 2, none⟩ = some (.int .i64 (fn : Int))) (fun _ => True) (HFB.out _ (Below.refl _ w5).drew) (fun hHeld => ?_)
 refine wpAnyY_take (i := 0) (v := .agg C1) [11, 12, 13] rfl (by kernel_rfl) (by kernel_rfl) (by kernel_rfl) (by kernel_rfl) (by kernel_rfl) (fun _ _ _ h => h) (Or.inl ⟨by first | kernel_rfl | rfl, ?_⟩) (fun _ _ => trivial) (by assumption) ?_
 ·intro w hSw
  exact exec_load_part 81 (.tmp 1) rfl W.heap.size 0 rfl C1 _ (fun j v h => by rw [Nat.zero_add]; exact hSw.1.out.cell h) Tryz.underlying81 rfl HI1.out
 (try simp only [Act.put, zq1, zq2, zq3, zq4, zq5, zq6])
 refine yt (v := ?_) 1 rfl ?_ (fun _ _ => trivial) ?_
 rotate_left
 ·intro w hSw; (try dsimp only at hSw); go_simp; (try with_reducible rfl)
 (try simp only [Act.put, zq1, zq2, zq3, zq4, zq5, zq6])
 refine yt (v := ?_) 2 rfl ?_ (fun _ _ => trivial) ?_
 rotate_left
 ·intro w hSw; (try dsimp only at hSw); go_simp; (try with_reducible rfl)
 (try simp only [Act.put, zq1, zq2, zq3, zq4, zq5, zq6])
 refine yk (v := ?_) 3 [6, 7, 10, 11, 12, 13] rfl ?_ (fun _ _ => trivial) ?_
 rotate_left
 ·intro w hSw; (try dsimp only at hSw); go_simp; (try with_reducible rfl)
 (try simp only [Act.put, zq1, zq2, zq3, zq4, zq5, zq6])
 refine yt (v := ?_) 4 rfl ?_ (fun _ _ => trivial) ?_
 rotate_left
 ·intro w hSw; (try dsimp only at hSw); go_simp; (try with_reducible rfl)
 (try simp only [Act.put, zq1, zq2, zq3, zq4, zq5, zq6])
 refine yk (v := ?_) 5 [6, 7, 10, 11, 12, 13] rfl ?_ (fun _ _ => trivial) ?_
 rotate_left
 ·intro w hSw; (try dsimp only at hSw); go_simp; (try with_reducible rfl)
 (try simp only [Act.put, zq1, zq2, zq3, zq4, zq5, zq6])
 refine yt (v := ?_) 6 rfl ?_ (fun _ _ => trivial) ?_
 rotate_left
 ·intro w hSw; (try dsimp only at hSw); go_simp; (try with_reducible rfl)
 (try simp only [Act.put, zq1, zq2, zq3, zq4, zq5, zq6])
 refine yk (v := ?_) 7 [10, 11, 12, 13] rfl ?_ (fun _ _ => trivial) ?_
 rotate_left
 ·intro w hSw; (try dsimp only at hSw); go_simp; (try with_reducible rfl)
 (try simp only [Act.put, zq1, zq2, zq3, zq4, zq5, zq6])
 refine yt (v := ?_) 8 rfl ?_ (fun _ _ => trivial) ?_
 rotate_left
 ·intro w hSw; (try dsimp only at hSw); go_simp; (try with_reducible rfl)
 (try simp only [Act.put, zq1, zq2, zq3, zq4, zq5, zq6])
 refine yk (v := ?_) 9 [10, 11, 12, 13] rfl ?_ (fun _ _ => trivial) ?_
 rotate_left
 ·intro w hSw; (try dsimp only at hSw); go_simp; (try with_reducible rfl)
 (try simp only [Act.put, zq1, zq2, zq3, zq4, zq5, zq6])
 refine wpAnyY_ready (i := 10) (by kernel_rfl) rfl (fun _ _ => trivial) (fun K hK => ?_)
 go_simp
 refine (rwrite_st w5.drew o hc HGW HTO (by omega) (by omega)).mono ?_
 rintro e w6 ⟨A6, c6, rfl, HO6, HB6⟩
 have HB6X : Hid (Below w5.heap.size w5 w6) := Lh ((Below.refl w5.heap.size w5).drew.trans HB6.out)
 have HR6 : Hid (RdB (W.heap.size + 1) z w6) := Lh (HR5.out.keep (HB6X.out.block _ HR5.out.lt))
 refine hK.out _ _ ((HFB.out _ HB6X.out)) (fun hHeld => ?_)
 clear hK K
 (try simp only [Act.put, zq1, zq2, zq3, zq4, zq5, zq6])
 refine wpAnyY_late (i := 11) (by kernel_rfl) (by kernel_rfl) rfl (fun K hK => ?_)
 (try rw [if_pos (by kernel_rfl)])
 refine wp_store_row 81 _ _ rfl (W.heap.size + 1) C1 rfl rfl 81 z HR6.out HI1.out HOL1.out HC1S.out.2 ?_
 refine hK.out _ _ (trivial) ?_
 clear hK K
 (try simp only [Act.put, zq1, zq2, zq3, zq4, zq5, zq6])
 refine wpAnyY_late (i := 12) (by kernel_rfl) (by kernel_rfl) rfl (fun K hK => ?_)
 go_simp
 refine hK.out _ _ (trivial) ?_
 clear hK K
 (try simp only [Act.put, zq1, zq2, zq3, zq4, zq5, zq6])
 refine wpAnyY_last (i := 13) (by kernel_rfl) (by kernel_rfl) (by kernel_rfl) rfl (fun K hK => ?_)
 go_simp
 refine hK.out _ _ trivial ?_
 clear hK K hHeld
 go_wp2_with fail
 refine rc_end (v := .slice A6 (wrB o.L s0.held).length c6) (u := .int .i64 0) rfl rfl rfl rfl HR6.out HC1S.out.1 ⟨A6, c6, ha, hc, ?_, Lh (setRow_below (HB5W.out.trans (HB6X.out.mono HB5W.out.size)) (by omega) _), Lh ?_, Lh fun V hV => ?_⟩
 ·rw [HW2.out]
  show _ = Ending.returned (.tuple #[.agg (rdC cs s0.node ha hc s0.held true s0.rej), .slice A6 (wrB o.L s0.held).length c6, .int .i64 0])
  rw [HRJ.out, HC1.out]
 ·rw [HW2.out]
  have q := HSZ.out
  have q5 := HB5W.out.size
  have q4 := HR5.out.lt
  exact own_keep (own_mono HO6.out q5) fun k hk => setRow_other _ _ _ _ (by have h := (own_ty HO6.out hk).1; have h2 : w5.heap.size ≤ k := h; omega)
 ·rw [HW2.out]
  have hb := HB5W.out.trans (HB6X.out.mono HB5W.out.size)
  exact HH.out V fun k hk hl => by
   have q := hb.size
   rw [hV k hk (by simp [World.setRow]; omega), setRow_other _ _ _ _ (by omega)]
   exact hb.block k hl
section
section
variable {w0 w : World} {F : World → Prop}
theorem rterms_st {A : Option Addr} {l : List TermI} (hK : Hid (St w0 w F)) (hp : ∀ W, F W → TermsAt A l W) (c : Nat) (n : Int) (v : Bool) (hv : Hid (pB (TermsOk n (l.map TermI.L)) = v)) :
  Calls Tryz.prog 89 #[.slice A l.length c, .int .i64 n] w (RetV w0 (.bool v) F) := by
 have hln := (hp _ hK.out.now).ln
 have HP := Lh hp
 clear hp
 go_enter Tryz.func89, Tryz.ntmps89
 go_wp2_with fail
 go_loopw [5] (fun i wr => ∃ k : Nat, k ≤ l.length ∧ i = .int .i64 k ∧ Hid (TermsTo n l k) ∧ Hid (St w0 wr F)) (fun i _ => l.length - (intOf i).toNat)
 case atStart => exact ⟨0, Nat.zero_le _, rfl, Lh (fun i hi => by simp at hi), hK⟩
 case round =>
 obtain ⟨k, hk, rfl, HR, HK⟩ := hrel
 by_cases hlt : k < l.length
 ·obtain ⟨pb, off, i, rfl, hx, hw, hd0, hd1, hd2, hd3, hd4, hd5⟩ := (HP.out _ HK.out.now).at_ hlt
  have HX := Lh hx
  have HKi := Lh (HK.out.add (Below.refl _ _) (G := PartsAt i.pa i.ps) (fun W hW => hw.2.below hW))
  clear hx hw
  by_cases a2 : TermOk n i.L
  ·have H2 := Lh (pB_true a2)
   have HR2 := Lh (HR.out.next HX.out a2)
   clear a2
   go_wp2_with fail
   refine (rtRight_st HKi (fun _ h => h.1) i.b i.d i.t i.u i.s i.pc n true H2).mono ?_
   rintro e w1 ⟨rfl, HK1⟩
   go_wp2_with fail
   exact ⟨⟨k + 1, by omega, by go_num, HR2, Lh (HK1.out.weaken fun _ h => h.2)⟩, by simp [intOf]; omega⟩
  ·have H2 := Lh (pB_false a2)
   obtain rfl := pB_f hv (fun h => a2 (h _ (List.mem_map.2 ⟨i, List.mem_of_getElem? HX.out, rfl⟩)))
   clear a2
   go_wp2_with fail
   refine (rtRight_st HKi (fun _ h => h.1) i.b i.d i.t i.u i.s i.pc n false H2).mono ?_
   rintro e w1 ⟨rfl, HK1⟩
   go_wp2_with fail
   go_ret
   exact ⟨rfl, Lh (HK1.out.weaken fun _ h => h.2)⟩
 ·obtain rfl : k = l.length := by omega
  have hd : decide (l.length < l.length) = false := by simp
  obtain rfl := pB_t hv HR.out.all
  go_wp2_with fail
  go_ret
  exact ⟨rfl, HK⟩
theorem rnext_st (hK : Hid (St w0 w F)) (cs : Array Value) (T : TabI) (hC : TabC cs T) (ht : ∀ W, F W → TabW T W) (hd0 : Int) (na : Option Addr) (nn nc : Nat) (e x : Int) (v : Bool) (hv : Hid (pB (NextOk T.L hd0 x) = v))
  (hl1 : T.ns.length ≤ 4096) (hl2 : T.acts.length ≤ 4096) (b1 : 0 ≤ hd0) (b2 : hd0 ≤ 4) (hx64 : I64 x) :
  Calls Tryz.prog 90 #[.agg cs, .agg #[.int .i64 hd0, .slice na nn nc, .int .i64 e], .int .i64 x] w (RetV w0 (.bool v) F) := by
 have HT := Lh ht
 have h257 := hC.c2
 have h256 := hC.c1
 have HK1 := St.tbox hK cs
 have HK := St.box HK1 [.int .i64 hd0, .slice na nn nc, .int .i64 e] 64
 have hz : (w.alloc (.cells cs 49)).heap.size = w.heap.size + 1 := by simp
 rw [hz] at HK
 clear ht hz HK1
 have HRES : Hid (∀ W, Hid (St w0 W (fun W => BoxC (w.heap.size + 1) [.int .i64 hd0, .slice na nn nc, .int .i64 e] W ∧ TabBox w.heap.size cs W ∧ F W)) → Hid (St w0 W F)) := Lh fun W h => Lh (h.out.weaken fun _ h => h.2.2)
 by_cases c1 : x = -1
 ·subst c1
  obtain rfl := pB_t hv (.inl rfl)
  go_enter Tryz.func90, Tryz.ntmps90
  go_wp2_with fail
  go_ret
  exact ⟨rfl, HRES.out _ HK⟩
 have c1a : (x == -1) = false := by rw [beq_eq_false_iff_ne]; exact c1
 by_cases c2 : hd0 = 4
 ·obtain rfl := pB_f hv (fun H => by
   rcases H with H | ⟨H, _⟩
   ·exact c1 H
   ·exact H c2)
  have c2a : (hd0 == 4) = true := by rw [beq_iff_eq]; exact c2
  clear c1 c2
  go_enter Tryz.func90, Tryz.ntmps90
  go_wp2_with fail
  go_ret
  exact ⟨rfl, HRES.out _ HK⟩
 have c2a : (hd0 == 4) = false := by rw [beq_eq_false_iff_ne]; exact c2
 have hs : IntKind.i64.wrap (hd0 + 1) = hd0 + 1 := IntWalk.i64_in _ (by omega)
 obtain ⟨q0, q1, q2⟩ := HK.out.now.1.c3
 have p6 := HK.out.now.2.1.cell1 h256
 by_cases c5 : 0 ≤ x
 ·obtain ⟨j, rfl⟩ := Int.eq_ofNat_of_zero_le c5
  by_cases hjl : j < T.ns.length
  ·obtain ⟨qb, qo, q, hB, hq, hqw, r0, r1, r2⟩ := (HT.out _ HK.out.now.2.2).nodes.at_ hjl
   rw [hB] at p6
   have HQ := Lh hq
   have hji : (j : Int) < (T.ns.length : Int) := by omega
   have hg : decide ((j : Int) < (T.ns.length : Int)) = true := decide_eq_true hji
   have hji2 : decide (j < T.ns.length) = true := decide_eq_true hjl
   have hlq := lt_of_cell r0
   have g6 := h256
   rw [hB] at g6
   clear hq hqw c1 r1 r2 c1a h256 q1 q2
   by_cases c6 : q.h = hd0 + 1
   ·obtain rfl := pB_t hv (.inr ⟨c2, .inl ⟨c5, _, nodesL_at HQ.out, c6⟩⟩)
    have c6a : (q.h == hd0 + 1) = true := by rw [beq_iff_eq]; exact c6
    clear c6 c2
    go_enter Tryz.func90, Tryz.ntmps90
    go_wp2_with fail
    go_quiet (fail)
    go_wp2_with fail
    go_ret
    exact ⟨rfl, HRES.out _ (St.hdrewN HK nq)⟩
   ·obtain rfl := pB_f hv (fun H => c6 (next_at (nodesL_at HQ.out) H))
    have c6a : (q.h == hd0 + 1) = false := by rw [beq_eq_false_iff_ne]; exact c6
    clear c6 c2
    go_enter Tryz.func90, Tryz.ntmps90
    go_wp2_with fail
    go_quiet (fail)
    go_wp2_with fail
    go_ret
    exact ⟨rfl, HRES.out _ (St.hdrewN HK nq)⟩
  ·obtain rfl := pB_f hv (fun H => by
    rcases H with H | ⟨_, ⟨_, n, hn, _⟩ | ⟨H, _⟩⟩
    ·exact c1 H
    ·have := (List.getElem?_eq_some_iff.1 hn).1
     rw [nodesL_len, Int.toNat_natCast] at this; omega
    ·omega)
   have hg : decide ((j : Int) < (T.ns.length : Int)) = false := decide_eq_false (by omega)
   have hg2 : decide (j < T.ns.length) = false := decide_eq_false hjl
   clear c1 c1a c2 hjl
   go_enter Tryz.func90, Tryz.ntmps90
   go_wp2_with fail
   go_quiet (fail)
   go_wp2_with fail
   go_ret
   exact ⟨rfl, HRES.out _ (St.hdrewN HK nq)⟩
 have hxm : x ≤ -2 := by omega
 have hxlo := hx64.1
 go_enter Tryz.func90, Tryz.ntmps90
 go_wp2_with fail
 go_loopw [7] (fun i wr => ∃ k : Nat, k ≤ T.acts.length ∧ i = .int .i64 k ∧ Hid (∀ j : Nat, j < k → x ≠ -2 - (j : Int)) ∧ Hid (St w0 wr (fun W => BoxC (w.heap.size + 1) [.int .i64 hd0, .slice na nn nc, .int .i64 e] W ∧ TabBox w.heap.size cs W ∧ F W))) (fun i _ => T.acts.length - (intOf i).toNat)
 case atStart => exact ⟨0, Nat.zero_le _, rfl, Lh (fun j hj => by omega), HK⟩
 case round =>
 clear HK q0 q1 q2 p6
 obtain ⟨k, hk, rfl, HR, HK⟩ := hrel
 obtain ⟨q0, q1, q2⟩ := HK.out.now.1.c3
 have p7 := HK.out.now.2.1.cell1 h257
 by_cases hlt : k < T.acts.length
 ·by_cases c3 : x = -2 - (k : Int)
  ·obtain ⟨ab, ao, a, hB, ha, haw, r0, r1, r2⟩ := (HT.out _ HK.out.now.2.2).acts.at_ hlt
   have HA := Lh ha
   have HJ : Hid (-2 - x = (k : Int)) := Lh (by omega)
   have hji : (k : Int) < (T.acts.length : Int) := by omega
   have hj0 : (0 : Int) ≤ (k : Int) := by omega
   have g7 := h257
   rw [hB] at p7 g7
   have HKo := Lh (HK.out.add (Below.refl _ _) (G := fun W => W.cell? ⟨ab, ao + k * 3, none⟩ = some (.int .i64 a.e) ∧ W.cell? ⟨ab, ao + k * 3 + 2, none⟩ = some (.slice a.o.a a.o.l.length a.o.c) ∧ OutW a.o W)
    (fun W hW => ⟨(hW.cell (p := ⟨ab, ao + k * 3, none⟩) (lt_of_cell r0)).trans r0, (hW.cell (p := ⟨ab, ao + k * 3 + 2, none⟩) (lt_of_cell r2)).trans r2, OutW.stays _ _ _ haw.2 hW⟩))
   have c3a : (x == -2 - (k : Int)) = true := by rw [beq_iff_eq]; exact c3
   clear ha haw c1 c1a hB c5 c3
   by_cases c7 : a.e ≤ hd0 + 1
   ·have hg7 : decide (a.e ≤ hd0 + 1) = true := decide_eq_true c7
    have HVV : Hid (pB (TermsOk (hd0 + 1) (a.o.l.map TermI.L)) = v) := Lh (by
     rw [← hv.out]
     refine pB_congr ⟨fun H => .inr ⟨c2, .inr ⟨hxm, a.L, by rw [HJ.out, Int.toNat_natCast]; exact actsL_at HA.out, c7, H⟩⟩, fun H => (next_act HJ.out (actsL_at HA.out) H).2⟩)
    clear c7 c2
    go_wp2_with fail
    have HK := St.hdrewN HKo 1
    go_region_held3 (fun W => W.cell? ⟨w.heap.size + 1, 0, none⟩ = some (.int .i64 hd0) ∧ W.cell? ⟨w.heap.size, 257, none⟩ = some (.slice (some ⟨ab, ao, none⟩) T.acts.length T.ac) ∧ W.cell? ⟨ab, ao + k * 3, none⟩ = some (.int .i64 a.e) ∧ W.cell? ⟨ab, ao + k * 3 + 2, none⟩ = some (.slice a.o.a a.o.l.length a.o.c))
     (first | exact ⟨HK.out.now.2.1 0 _ rfl, HK.out.now.2.2.1.cell1 g7, HK.out.now.1.1, HK.out.now.1.2.1⟩ | go_keep)
     ((go_at_call 89; refine (rterms_st HK (fun _ h => h.1.2.2) a.o.c (hd0 + 1) v HVV).mono ?_; rintro e5 w5 ⟨rfl, HK⟩))
    go_wp2_with fail
    go_ret
    exact ⟨rfl, HRES.out _ (Lh (HK.out.weaken fun _ h => h.2))⟩
   ·have hg7 : decide (a.e ≤ hd0 + 1) = false := decide_eq_false c7
    obtain rfl := pB_f hv (fun H => c7 (next_act HJ.out (actsL_at HA.out) H).1)
    clear c7 c2
    go_wp2_with fail
    go_quiet (fail)
    go_wp2_with fail
    go_ret
    exact ⟨rfl, HRES.out _ (St.hdrewN HK nq)⟩
  ·have c3a : (x == -2 - (k : Int)) = false := by rw [beq_eq_false_iff_ne]; exact c3
   have HN : Hid (∀ j : Nat, j < k + 1 → x ≠ -2 - (j : Int)) := Lh fun j hj => by
    by_cases e : j = k
    ·subst e; exact c3
    ·exact HR.out j (by omega)
   clear c3 c1 c1a c2 c5
   go_wp2_with fail
   exact ⟨⟨k + 1, by omega, by go_num, HN, HK⟩, by simp [intOf]; omega⟩
 ·obtain rfl : k = T.acts.length := by omega
  have hd : decide (T.acts.length < T.acts.length) = false := by simp
  obtain rfl := pB_f hv (fun H => by
   rcases H with H | ⟨_, ⟨H, _⟩ | ⟨h1, n, hn, _⟩⟩
   ·exact c1 H
   ·omega
   ·have := (List.getElem?_eq_some_iff.1 hn).1
    rw [actsL_len] at this
    exact HR.out (-2 - x).toNat this (by omega))
  clear c1 c1a c2 c5
  go_wp2_with fail
  go_ret
  exact ⟨rfl, HRES.out _ HK⟩
end
end
section
def SoFar (b v : Bool) (P : Prop) : Prop := (b = false ∧ v = false) ∨ (b = true ∧ P)
theorem SoFar.mono {b v : Bool} {P Q : Prop} (h : SoFar b v P) (hq : P → Q) : SoFar b v Q := h.imp id fun h => ⟨h.1, hq h.2⟩
def ClsTo (T : TabL) (K k : Nat) : Prop := 1 ≤ K ∧ K ≤ 256 ∧ ∀ c ∈ T.cls.take k, c < (K : Int)
theorem rangeAt_box {b : Nat} {cs : Array Value} {W : World} (h : TabBox b cs W) : W.rangeAt b 0 cs.toList := fun j u hu => by
 rw [Nat.zero_add]
 exact h.cell1 (by simpa using hu)
section
variable {w0 w : World} {F : World → Prop}
theorem rCheck_st (hK : Hid (St w0 w F)) (cs : Array Value) (T : TabI) (hC : TabC cs T) (ht : ∀ W, F W → TabW T W) (v : Bool) (hv : Hid (pB (TabOk T.L) = v)) :
  Calls Tryz.prog 34 #[.agg cs] w (RetV w0 (.bool v) F) := by
 have HT := Lh ht
 have h258 := hC.c3
 have h257 := hC.c2
 have h256 := hC.c1
 have HK := St.tbox hK cs
 have HRES : Hid (∀ W (G : World → Prop), Hid (St w0 W (fun W => G W ∧ F W)) → Hid (St w0 W F)) := Lh fun W G h => Lh (h.out.weaken fun _ h => h.2)
 have HNO : Hid (¬ TabOk T.L → v = false) := Lh fun H => pB_f hv H
 clear ht
 have hln1 := (HT.out _ HK.out.now.2).nodes.ln
 have hln2 := (HT.out _ HK.out.now.2).acts.ln
 have hln3 := (HT.out _ HK.out.now.2).ends.ln
 by_cases a1 : T.ns.length = 0
 ·obtain rfl := HNO.out (fun H => by
   obtain ⟨n, hn, _⟩ := H.head.2.2.2
   have := (List.getElem?_eq_some_iff.1 hn).1
   rw [nodesL_len] at this; omega)
  have a1' : ((T.ns.length : Int) == 0) = true := by rw [beq_iff_eq]; omega
  clear a1
  go_enter Tryz.func34, Tryz.ntmps34
  go_wp2_with fail
  go_ret
  exact ⟨rfl, HRES.out _ _ HK⟩
 have a1' : ((T.ns.length : Int) == 0) = false := by rw [beq_eq_false_iff_ne]; omega
 by_cases a2 : ¬ T.ns.length ≤ 4096
 ·obtain rfl := HNO.out (fun H => a2 (by have := H.head.1; rwa [nodesL_len] at this))
  have a2' : (4096 : Int) < T.ns.length := by omega
  clear a1 a2
  go_enter Tryz.func34, Tryz.ntmps34
  go_wp2_with fail
  go_ret
  exact ⟨rfl, HRES.out _ _ HK⟩
 by_cases a3 : ¬ T.acts.length ≤ 4096
 ·obtain rfl := HNO.out (fun H => a3 (by have := H.head.2.1; rwa [actsL_len] at this))
  have a3' : (4096 : Int) < T.acts.length := by omega
  clear a1 a2 a3
  go_enter Tryz.func34, Tryz.ntmps34
  go_wp2_with fail
  all_goals (go_ret; exact ⟨rfl, HRES.out _ _ HK⟩)
 by_cases a4 : ¬ T.es.length ≤ 4096
 ·obtain rfl := HNO.out (fun H => a4 (by have := H.head.2.2.1; rwa [endsL_len] at this))
  have a4' : (4096 : Int) < T.es.length := by omega
  clear a1 a2 a3 a4
  go_enter Tryz.func34, Tryz.ntmps34
  go_wp2_with fail
  all_goals (go_ret; exact ⟨rfl, HRES.out _ _ HK⟩)
 have hl1 : T.ns.length ≤ 4096 := by omega
 have hl2 : T.acts.length ≤ 4096 := by omega
 have hl3 : T.es.length ≤ 4096 := by omega
 have hl0 : 0 < T.ns.length := by omega
 clear a1 a2 a3 a4 hln1 hln2 hln3
 obtain ⟨nb, no, n0, hA, hn0, hn0w, r0, r1, r2⟩ := (HT.out _ HK.out.now.2).nodes.at_ hl0
 have g256 := h256
 rw [hA] at g256
 have hln0 := hn0w.2.ln
 rw [Nat.zero_mul, Nat.add_zero] at r0 r1 r2
 have HN0 := Lh hn0
 clear hn0 hn0w
 have hlz : nb < w.heap.size := by
  have hx := (HT.out _ hK.out.now).nodes.at_ hl0
  obtain ⟨nb', no', n0', hA', _, _, r0', _⟩ := hx
  rw [hA] at hA'; injection hA' with hA'; injection hA' with e1 e2; subst e1
  exact lt_of_cell r0'
 by_cases a5 : ¬ n0.h = 0
 ·obtain rfl := HNO.out (fun H => a5 (by
   obtain ⟨n, hn, h1, _⟩ := H.head.2.2.2
   rw [nodesL_at HN0.out] at hn; injection hn with hn; subst hn; exact h1))
  have a5' : (n0.h != 0) = true := by rw [bne_iff_ne]; exact a5
  clear a5
  go_enter Tryz.func34, Tryz.ntmps34
  go_wp2_with fail
  go_ret
  exact ⟨rfl, HRES.out _ _ HK⟩
 have a5 := Classical.not_not.1 a5
 have a5' : (n0.h != 0) = false := by rw [bne_eq_false_iff_eq]; exact a5
 have HA5 := Lh a5
 have HW : Hid (widthL T.L = n0.nx.length) := Lh (widthL_at (nodesL_at HN0.out))
 clear a5
 obtain ⟨K, hKn⟩ : ∃ K, n0.nx.length = K := ⟨_, rfl⟩
 rw [hKn] at HW r1 hln0
 have HKN := Lh hKn
 have HHK : Hid (v = true → 1 ≤ K ∧ K ≤ 256) := Lh (fun H => by
  have H := pB_iff.1 (hv.out.trans H)
  obtain ⟨n, hn, _, h2, h3⟩ := H.head.2.2.2
  rw [nodesL_at HN0.out] at hn; injection hn with hn; subst hn
  have h2' : 1 ≤ n0.nx.length := h2
  have h3' : n0.nx.length ≤ 256 := h3
  rw [HKN.out] at h2' h3'; exact ⟨h2', h3'⟩)
 clear hKn
 go_enter Tryz.func34, Tryz.ntmps34
 go_upto_region 4 with fail
 go_cut [4] (fun s wr => ∃ b : Bool, s = .bool b ∧ Hid (SoFar b v (1 ≤ K ∧ K ≤ 256)) ∧ Hid (St w0 wr (fun W => TabBox w.heap.size cs W ∧ F W)))
 case first =>
  as_aux_lemma =>
   have HVF : Hid (¬ (1 ≤ K ∧ K ≤ 256) → v = false) := Lh fun H => by
    cases v
    ·rfl
    ·exact absurd (HHK.out rfl) H
   by_cases b1 : ¬ (1 : Int) ≤ K
   ·obtain rfl := HVF.out (by omega)
    have b1' : (K : Int) < 1 := by omega
    clear b1
    go_wp2_with fail
    go_meet
    exact ⟨false, rfl, Lh (.inl ⟨rfl, rfl⟩), HK⟩
   have b1 := Classical.not_not.1 b1
   by_cases b2 : (256 : Int) < K
   ·obtain rfl := HVF.out (by omega)
    have b2' : decide ((K : Int) ≤ 256) = false := decide_eq_false (by omega)
    go_wp2_with fail
    go_meet
    exact ⟨false, rfl, Lh (.inl ⟨rfl, rfl⟩), HK⟩
   have b2' : decide ((K : Int) ≤ 256) = true := decide_eq_true (by omega)
   have HH : Hid (1 ≤ K ∧ K ≤ 256) := Lh ⟨by omega, by omega⟩
   go_wp2_with fail
   go_meet
   exact ⟨true, rfl, Lh (.inr ⟨rfl, HH.out⟩), HK⟩
 case rest =>
 clear HK r0 r1 r2 HHK
 obtain ⟨b, rfl, hb, HK⟩ := hcut
 go_upto_block 0 with fail
 go_cut [4] (fun s wr => ∃ b : Bool, s = .bool b ∧ Hid (SoFar b v (HeadK T.L K)) ∧ Hid (St w0 wr (fun W => TabBox w.heap.size cs W ∧ F W)))
 case first =>
  as_aux_lemma =>
   go_wp2_with fail
   go_loopw [4, 5] (fun s i wr => ∃ (b : Bool) (k : Nat), k ≤ 256 ∧ i = .int .i64 k ∧ s = .bool b ∧ Hid (SoFar b v (ClsTo T.L K k)) ∧ Hid (St w0 wr (fun W => TabBox w.heap.size cs W ∧ F W))) (fun _ i _ => 256 - (intOf i).toNat)
   case atStart => exact ⟨b, 0, by omega, rfl, rfl, Lh (hb.out.mono fun h => ⟨h.1, h.2, fun c hc => by simp at hc⟩), HK⟩
   case round =>
   clear HK hb
   obtain ⟨b, k, hk, rfl, rfl, hb, HK⟩ := hrel
   rcases hb.out with ⟨rfl, rfl⟩ | ⟨rfl, hok⟩
   ·clear hb
    by_cases hlt : k < 256
    ·go_wp2_with fail
     go_meet
     exact ⟨false, rfl, Lh (.inl ⟨rfl, rfl⟩), HK⟩
    ·obtain rfl : k = 256 := by omega
     go_wp2_with fail
     go_meet
     exact ⟨false, rfl, Lh (.inl ⟨rfl, rfl⟩), HK⟩
   have HOK := Lh hok
   clear hb hok
   by_cases hlt : k < 256
   ·obtain ⟨c, hc⟩ : ∃ c, T.cls[k]? = some c := ⟨_, List.getElem?_eq_getElem (by rw [hC.ln]; exact hlt)⟩
    have hcc := HK.out.now.1.cell1 (hC.cl k c hc)
    obtain ⟨hc0, hc1⟩ := hC.u8 c (List.mem_of_getElem? hc)
    have HCK := Lh hc
    have hk' : (k : Int) < 256 := by omega
    have hk0 : (0 : Int) ≤ (k : Int) := by omega
    clear hc
    by_cases h1 : c < (K : Int)
    ·have h1' : decide (c < (K : Int)) = true := decide_eq_true h1
     have HN : Hid (ClsTo T.L K (k + 1)) := Lh ⟨HOK.out.1, HOK.out.2.1, fun d hd => by
      have hd' : d ∈ T.cls.take (k + 1) := hd
      rw [take_snoc? HCK.out] at hd'
      rcases List.mem_append.1 hd' with hd' | hd'
      ·exact HOK.out.2.2 d hd'
      ·simp at hd'; subst hd'; exact h1⟩
     clear h1
     go_wp2_with fail
     exact ⟨⟨true, k + 1, by omega, by go_num, rfl, Lh (.inr ⟨rfl, HN.out⟩), HK⟩, by simp [intOf]; omega⟩
    ·have h1' : decide (c < (K : Int)) = false := decide_eq_false h1
     obtain rfl := HNO.out (fun H => h1 (by
      have := H.cls c (List.mem_of_getElem? HCK.out)
      rwa [HW.out] at this))
     clear h1
     go_wp2_with fail
     exact ⟨⟨false, k + 1, by omega, by go_num, rfl, Lh (.inl ⟨rfl, rfl⟩), HK⟩, by simp [intOf]; omega⟩
   ·obtain rfl : k = 256 := by omega
    have HN : Hid (HeadK T.L K) := Lh ⟨HOK.out.1, HOK.out.2.1, by
     have h := HOK.out.2.2
     rw [show (256 : Nat) = T.L.cls.length from hC.ln.symm, List.take_length] at h; exact h⟩
    go_wp2_with fail
    go_meet
    exact ⟨true, rfl, Lh (.inr ⟨rfl, HN.out⟩), HK⟩
 case rest =>
 clear HK hb
 obtain ⟨b, rfl, hb, HK⟩ := hcut
 go_upto_block 2 with fail
 go_cut [4] (fun s wr => ∃ b : Bool, s = .bool b ∧ Hid (SoFar b v (HeadK T.L K ∧ ∀ a ∈ T.L.acts, ActOk T.L a)) ∧ Hid (St w0 wr (fun W => TabBox w.heap.size cs W ∧ F W)))
 case first =>
  as_aux_lemma =>
   go_wp2_with fail
   go_loopw [4, 6] (fun s i wr => ∃ (b : Bool) (k : Nat), k ≤ T.acts.length ∧ i = .int .i64 k ∧ s = .bool b ∧ Hid (SoFar b v (HeadK T.L K ∧ ActsTo T.L T.acts k)) ∧ Hid (St w0 wr (fun W => TabBox w.heap.size cs W ∧ F W))) (fun _ i _ => T.acts.length - (intOf i).toNat)
   case atStart => exact ⟨b, 0, by omega, rfl, rfl, Lh (hb.out.mono fun h => ⟨h, fun c hc => by simp at hc⟩), HK⟩
   case round =>
   clear HK hb
   obtain ⟨b, m, hm, rfl, rfl, hb, HK⟩ := hrel
   have p7 := HK.out.now.1.cell1 h257
   have p6 := HK.out.now.1.cell1 g256
   by_cases hlt : m < T.acts.length
   case neg =>
    obtain rfl : m = T.acts.length := by omega
    have hd : decide (T.acts.length < T.acts.length) = false := by simp
    have HB2 : Hid (SoFar b v (HeadK T.L K ∧ ∀ a ∈ T.L.acts, ActOk T.L a)) := Lh (hb.out.mono fun h => ⟨h.1, h.2.all⟩)
    clear hb
    go_wp2_with fail
    go_meet
    exact ⟨b, rfl, HB2, HK⟩
   rcases hb.out with ⟨rfl, rfl⟩ | ⟨rfl, hok⟩
   ·clear hb
    go_wp2_with fail
    go_meet
    exact ⟨false, rfl, Lh (.inl ⟨rfl, rfl⟩), HK⟩
   have HOK := Lh hok
   clear hb hok
   obtain ⟨ab, ao, a, hB, ha, haw, r0, r1, r2⟩ := (HT.out _ HK.out.now.2).acts.at_ hlt
   have HAC := Lh ha
   have l1 := lt_of_cell r0
   have l2 := lt_of_cell p6
   have HKa := St.box HK [.int .i64 a.e, .int .i64 a.d, .slice a.o.a a.o.l.length a.o.c] 59
   have HNA : Hid (¬ ActOk T.L a.L → v = false) := Lh fun H => HNO.out (fun H2 => H (H2.acts _ (List.mem_map.2 ⟨a, List.mem_of_getElem? HAC.out, rfl⟩)))
   have HYA : Hid (ActOk T.L a.L → ActsTo T.L T.acts (m + 1)) := Lh fun H => HOK.out.2.next HAC.out H
   have HFA : Hid (∀ W, Hid (St w0 W (fun W => BoxC wr.heap.size [.int .i64 a.e, .int .i64 a.d, .slice a.o.a a.o.l.length a.o.c] W ∧ TabBox w.heap.size cs W ∧ F W)) → Hid (St w0 W (fun W => TabBox w.heap.size cs W ∧ F W))) := Lh fun W h => Lh (h.out.weaken fun _ h => h.2)
   rw [hB] at p7
   clear ha haw hB
   by_cases c1 : ¬ 1 ≤ a.e
   ·obtain rfl := HNA.out (fun H => c1 H.1)
    have c1' : a.e < 1 := by omega
    clear c1
    go_wp2_with fail
    exact ⟨⟨false, m + 1, by omega, by go_num, rfl, Lh (.inl ⟨rfl, rfl⟩), HFA.out _ HKa⟩, by simp [intOf]; omega⟩
   have c1 := Classical.not_not.1 c1
   by_cases c2 : ¬ a.e ≤ 4
   ·obtain rfl := HNA.out (fun H => c2 H.2.1)
    have c2' : 4 < a.e := by omega
    have c2a : decide (a.e ≤ 4) = false := decide_eq_false c2
    clear c2
    go_wp2_with fail
    exact ⟨⟨false, m + 1, by omega, by go_num, rfl, Lh (.inl ⟨rfl, rfl⟩), HFA.out _ HKa⟩, by simp [intOf]; omega⟩
   have c2 := Classical.not_not.1 c2
   by_cases c3 : ¬ 0 ≤ a.d
   ·obtain rfl := HNA.out (fun H => c3 H.2.2.1)
    have c3' : a.d < 0 := by omega
    have c3a : decide (0 ≤ a.d) = false := decide_eq_false c3
    clear c3
    go_wp2_with fail
    exact ⟨⟨false, m + 1, by omega, by go_num, rfl, Lh (.inl ⟨rfl, rfl⟩), HFA.out _ HKa⟩, by simp [intOf]; omega⟩
   have c3 := Classical.not_not.1 c3
   by_cases c4 : (T.ns.length : Int) ≤ a.d
   ·obtain rfl := HNA.out (fun H => by
     obtain ⟨n, hn, _⟩ := H.2.2.2.1
     have := (List.getElem?_eq_some_iff.1 hn).1
     rw [nodesL_len] at this
     have e : a.L.dest = a.d := rfl
     rw [e] at this
     omega)
    have c4a : decide (a.d < (T.ns.length : Int)) = false := decide_eq_false (by omega)
    go_wp2_with fail
    exact ⟨⟨false, m + 1, by omega, by go_num, rfl, Lh (.inl ⟨rfl, rfl⟩), HFA.out _ HKa⟩, by simp [intOf]; omega⟩
   have c4 : a.d < (T.ns.length : Int) := by omega
   have c4a : decide (a.d < (T.ns.length : Int)) = true := decide_eq_true c4
   by_cases c6 : ¬ a.o.l.length ≤ 64
   ·obtain rfl := HNA.out (fun H => c6 (by have := H.2.2.2.2; rwa [show a.L.out.length = a.o.l.length from outL_len a.o] at this))
    have c6' : (64 : Int) < a.o.l.length := by omega
    have c6a : decide ((a.o.l.length : Int) ≤ 64) = false := decide_eq_false (by omega)
    clear c6
    go_wp2_with fail
    exact ⟨⟨false, m + 1, by omega, by go_num, rfl, Lh (.inl ⟨rfl, rfl⟩), HFA.out _ HKa⟩, by simp [intOf]; omega⟩
   have c6 := Classical.not_not.1 c6
   have c6a : decide ((a.o.l.length : Int) ≤ 64) = true := decide_eq_true (by omega)
   obtain ⟨j, hj⟩ := Int.eq_ofNat_of_zero_le c3
   have hjl : j < T.ns.length := by omega
   obtain ⟨qb, qo, q, hB2, hq, hqw, s0, s1, s2⟩ := (HT.out _ HK.out.now.2).nodes.at_ hjl
   rw [hA] at hB2
   injection hB2 with hB2
   injection hB2 with e1 e2
   subst e1; subst e2
   have HQN := Lh hq
   have e3 : a.L.dest.toNat = j := by show a.d.toNat = j; rw [hj, Int.toNat_natCast]
   have HE3 := Lh e3
   have l3 := lt_of_cell s0
   have hjb : (j : Int) < (T.ns.length : Int) := by omega
   have hj0 : (0 : Int) ≤ (j : Int) := by omega
   have c4b : decide ((j : Int) < (T.ns.length : Int)) = true := decide_eq_true hjb
   have c4c : decide (j < T.ns.length) = true := decide_eq_true hjl
   clear hq hqw s1 s2 e3 c3 c4 c4a
   rw [hj] at r1
   rw [hj] at HKa HFA
   by_cases c5 : ¬ q.h = 0
   ·obtain rfl := HNA.out (fun H => c5 (by
     obtain ⟨n, hn, h1⟩ := H.2.2.2.1
     rw [HE3.out, nodesL_at HQN.out] at hn; injection hn with hn; subst hn; exact h1))
    have c5' : (q.h == 0) = false := by rw [beq_eq_false_iff_ne]; exact c5
    clear c5 hj
    go_wp2_with fail
    exact ⟨⟨false, m + 1, by omega, by go_num, rfl, Lh (.inl ⟨rfl, rfl⟩), HFA.out _ HKa⟩, by simp [intOf]; omega⟩
   have c5 := Classical.not_not.1 c5
   have c5' : (q.h == 0) = true := by rw [beq_iff_eq]; exact c5
   have HYA2 := Lh (HYA.out ⟨c1, c2, by show 0 ≤ a.d; rw [hj]; exact hj0, ⟨q.L, by rw [HE3.out]; exact nodesL_at HQN.out, c5⟩, by rw [show a.L.out.length = a.o.l.length from outL_len a.o]; exact c6⟩)
   clear c5 hj
   go_wp2_with fail
   exact ⟨⟨true, m + 1, by omega, by go_num, rfl, Lh (.inr ⟨rfl, HOK.out.1, HYA2.out⟩), HFA.out _ HKa⟩, by simp [intOf]; omega⟩
 case rest =>
 clear HK hb
 obtain ⟨b, rfl, hb, HK⟩ := hcut
 go_upto_block 4 with fail
 go_cut [4] (fun s wr => ∃ b : Bool, s = .bool b ∧ Hid (SoFar b v ((HeadK T.L K ∧ ∀ a ∈ T.L.acts, ActOk T.L a) ∧ ∀ l ∈ T.L.ends, l.length ≤ 64)) ∧ Hid (St w0 wr (fun W => TabBox w.heap.size cs W ∧ F W)))
 case first =>
  as_aux_lemma =>
   go_wp2_with fail
   go_loopw [4, 8] (fun s i wr => ∃ (b : Bool) (k : Nat), k ≤ T.es.length ∧ i = .int .i64 k ∧ s = .bool b ∧ Hid (SoFar b v ((HeadK T.L K ∧ ∀ a ∈ T.L.acts, ActOk T.L a) ∧ EndsTo T.es k)) ∧ Hid (St w0 wr (fun W => TabBox w.heap.size cs W ∧ F W))) (fun _ i _ => T.es.length - (intOf i).toNat)
   case atStart => exact ⟨b, 0, by omega, rfl, rfl, Lh (hb.out.mono fun h => ⟨h, fun c hc => by simp at hc⟩), HK⟩
   case round =>
   clear HK hb
   obtain ⟨b, m, hm, rfl, rfl, hb, HK⟩ := hrel
   have p8 := HK.out.now.1.cell1 h258
   by_cases hlt : m < T.es.length
   case neg =>
    obtain rfl : m = T.es.length := by omega
    have hd : decide (T.es.length < T.es.length) = false := by simp
    have HB2 : Hid (SoFar b v ((HeadK T.L K ∧ ∀ a ∈ T.L.acts, ActOk T.L a) ∧ ∀ l ∈ T.L.ends, l.length ≤ 64)) := Lh (hb.out.mono fun h => ⟨h.1, h.2.all⟩)
    clear hb
    go_wp2_with fail
    go_meet
    exact ⟨b, rfl, HB2, HK⟩
   rcases hb.out with ⟨rfl, rfl⟩ | ⟨rfl, hok⟩
   ·clear hb
    go_wp2_with fail
    go_meet
    exact ⟨false, rfl, Lh (.inl ⟨rfl, rfl⟩), HK⟩
   have HOK := Lh hok
   clear hb hok
   obtain ⟨eb, eo, o, hB, ho, how, r0⟩ := (HT.out _ HK.out.now.2).ends.at_ hlt
   have HO := Lh ho
   rw [hB] at p8
   clear ho how hB
   by_cases c6 : ¬ o.l.length ≤ 64
   ·obtain rfl := HNO.out (fun H => c6 (by have := H.ends o.L (List.mem_map.2 ⟨o, List.mem_of_getElem? HO.out, rfl⟩); rwa [outL_len] at this))
    have c6a : decide ((o.l.length : Int) ≤ 64) = false := decide_eq_false (by omega)
    clear c6
    go_wp2_with fail
    exact ⟨⟨false, m + 1, by omega, by go_num, rfl, Lh (.inl ⟨rfl, rfl⟩), HK⟩, by simp [intOf]; omega⟩
   have c6 := Classical.not_not.1 c6
   have c6a : decide ((o.l.length : Int) ≤ 64) = true := decide_eq_true (by omega)
   have HY := Lh (HOK.out.2.next HO.out c6)
   clear c6
   go_wp2_with fail
   exact ⟨⟨true, m + 1, by omega, by go_num, rfl, Lh (.inr ⟨rfl, HOK.out.1, HY.out⟩), HK⟩, by simp [intOf]; omega⟩
 case rest =>
 clear HK hb
 obtain ⟨b, rfl, hb, HK⟩ := hcut
 go_wp2_with fail
 go_loopw [4, 9] (fun s i wr => ∃ (b : Bool) (k : Nat), k ≤ T.ns.length ∧ i = .int .i64 k ∧ s = .bool b ∧ Hid (SoFar b v (((HeadK T.L K ∧ ∀ a ∈ T.L.acts, ActOk T.L a) ∧ ∀ l ∈ T.L.ends, l.length ≤ 64) ∧ NodesTo T.L K T.ns k)) ∧ Hid (St w0 wr (fun W => TabBox w.heap.size cs W ∧ F W))) (fun _ i _ => T.ns.length - (intOf i).toNat)
 case atStart => exact ⟨b, 0, by omega, rfl, rfl, Lh (hb.out.mono fun h => ⟨h, fun c hc => by simp at hc⟩), HK⟩
 case round =>
 clear HK hb
 obtain ⟨b, m, hm, rfl, rfl, hb, HK⟩ := hrel
 have p6 := HK.out.now.1.cell1 g256
 by_cases hlt : m < T.ns.length
 case neg =>
  obtain rfl : m = T.ns.length := by omega
  have hd : decide (T.ns.length < T.ns.length) = false := by simp
  have HB2 : Hid (b = v) := Lh (by
   rcases hb.out with ⟨h1, h2⟩ | ⟨h1, h2⟩
   ·rw [h1, h2]
   ·rw [h1]
    symm
    refine pB_t hv ⟨⟨by rw [nodesL_len]; exact hl1, by rw [actsL_len]; exact hl2, by rw [endsL_len]; exact hl3, n0.L, nodesL_at HN0.out, HA5.out, ?_, ?_⟩, ?_, h2.1.1.2, h2.1.2, ?_⟩
    ·show 1 ≤ n0.nx.length; rw [HKN.out]; exact h2.1.1.1.1
    ·show n0.nx.length ≤ 256; rw [HKN.out]; exact h2.1.1.1.2.1
    ·rw [HW.out]; exact h2.1.1.1.2.2
    ·rw [HW.out]; exact h2.2.all)
  clear hb
  cases b
  ·obtain rfl := HB2.out
   go_wp2_with fail
   go_ret
   exact ⟨rfl, HRES.out _ _ HK⟩
  ·obtain rfl := HB2.out
   go_wp2_with fail
   go_ret
   exact ⟨rfl, HRES.out _ _ HK⟩
 rcases hb.out with ⟨rfl, rfl⟩ | ⟨rfl, hok⟩
 ·clear hb
  go_wp2_with fail
  go_ret
  exact ⟨rfl, HRES.out _ _ HK⟩
 have HOK := Lh hok
 clear hb hok
 obtain ⟨pb, off, ⟨hd0, na, nc, nx, e⟩, hB, hx, hnw, r0, r1, r2⟩ := (HT.out _ HK.out.now.2).nodes.at_ hlt
 rw [hA] at hB
 injection hB with hB
 injection hB with e1 e2
 subst e1; subst e2
 have HX := Lh hx
 simp only at r0 r1 r2
 have hnln := hnw.2.ln
 have HKn := St.box (Lh (HK.out.add (Below.refl _ _) (G := IntsAt na nx) (fun W hW => hnw.2.below hW))) [.int .i64 hd0, .slice na nx.length nc, .int .i64 e] 64
 have HNN : Hid (¬ NodeOk T.L K ⟨hd0, nx, e⟩ → v = false) := Lh fun H => HNO.out (fun H2 => H (by
  have := H2.nodes _ (List.mem_map.2 ⟨_, List.mem_of_getElem? HX.out, rfl⟩)
  rwa [HW.out] at this))
 have HYN : Hid (NodeOk T.L K ⟨hd0, nx, e⟩ → NodesTo T.L K T.ns (m + 1)) := Lh fun H => HOK.out.2.next HX.out H
 have HFN : Hid (∀ W, Hid (St w0 W (fun W => BoxC wr.heap.size [.int .i64 hd0, .slice na nx.length nc, .int .i64 e] W ∧ IntsAt na nx W ∧ TabBox w.heap.size cs W ∧ F W)) → Hid (St w0 W (fun W => TabBox w.heap.size cs W ∧ F W))) := Lh fun W h => Lh (h.out.weaken fun _ h => h.2.2)
 have l1 := lt_of_cell r0
 have p8 := HK.out.now.1.cell1 h258
 have l2 := lt_of_cell p8
 clear hx hnw
 by_cases b1 : ¬ 0 ≤ hd0
 ·obtain rfl := HNN.out (fun H => b1 H.1.1)
  have b1' : hd0 < 0 := by omega
  clear b1
  go_wp2_with fail
  go_ret
  exact ⟨rfl, HRES.out _ _ (HFN.out _ HKn)⟩
 have b1 := Classical.not_not.1 b1
 by_cases b2 : ¬ hd0 ≤ 4
 ·obtain rfl := HNN.out (fun H => b2 H.1.2.1)
  have b2' : 4 < hd0 := by omega
  clear b2
  go_wp2_with fail
  go_ret
  exact ⟨rfl, HRES.out _ _ (HFN.out _ HKn)⟩
 have b2 := Classical.not_not.1 b2
 by_cases b3 : ¬ nx.length = K
 ·obtain rfl := HNN.out (fun H => b3 H.1.2.2.1)
  have b3' : ((nx.length : Int) != (K : Int)) = true := by rw [bne_iff_ne]; omega
  clear b3
  go_wp2_with fail
  go_ret
  exact ⟨rfl, HRES.out _ _ (HFN.out _ HKn)⟩
 have b3 := Classical.not_not.1 b3
 have b3' : ((nx.length : Int) != (K : Int)) = false := by rw [bne_eq_false_iff_eq, b3]
 have HB3 := Lh b3
 have hnK : (nx.length : Int) = K := by omega
 by_cases b4 : ¬ -1 ≤ e
 ·obtain rfl := HNN.out (fun H => b4 H.1.2.2.2.1)
  have b4' : e < -1 := by omega
  clear b4 b3 hnK
  go_wp2_with fail
  go_ret
  exact ⟨rfl, HRES.out _ _ (HFN.out _ HKn)⟩
 have b4 := Classical.not_not.1 b4
 by_cases b5 : ¬ e < (T.es.length : Int)
 ·obtain rfl := HNN.out (fun H => b5 (by have := H.1.2.2.2.2; rw [endsL_len] at this; exact this))
  have b5' : (T.es.length : Int) ≤ e := by omega
  clear b5 b3 hnK
  go_wp2_with fail
  go_ret
  exact ⟨rfl, HRES.out _ _ (HFN.out _ HKn)⟩
 have b5 := Classical.not_not.1 b5
 have HHD : Hid (NodeHead T.L K ⟨hd0, nx, e⟩) := Lh ⟨b1, b2, b3, b4, by rw [endsL_len]; exact b5⟩
 have hKl : K ≤ 256 := HOK.out.1.1.1.2.1
 clear b3 hnK
 go_wp2_with fail
 go_cut [4] (fun s wr' => ∃ b : Bool, s = .bool b ∧ Hid (SoFar b v (EndOk T.L hd0 e)) ∧ Hid (St w0 wr' (fun W => BoxC wr.heap.size [.int .i64 hd0, .slice na nx.length nc, .int .i64 e] W ∧ IntsAt na nx W ∧ TabBox w.heap.size cs W ∧ F W)))
 case first =>
  as_aux_lemma =>
   by_cases b6 : e = -1
   ·have b6a : (e == -1) = true := by rw [beq_iff_eq]; exact b6
    have HEN : Hid (EndOk T.L hd0 e) := Lh (fun h => by omega)
    clear b6 b4 b5
    go_quiet (fail)
    go_wp2_with fail
    go_meet
    exact ⟨true, rfl, Lh (.inr ⟨rfl, HEN.out⟩), St.hdrewN HKn nq⟩
   ·have b6a : (e == -1) = false := by rw [beq_eq_false_iff_ne]; exact b6
    have b60 : 0 ≤ e := by omega
    obtain ⟨j, rfl⟩ := Int.eq_ofNat_of_zero_le b60
    have b5' : j < T.es.length := by omega
    obtain ⟨eb, eo, o, hA2, ho, how, hec⟩ := (HT.out _ HKn.out.now.2.2.2).ends.at_ b5'
    have g258 := h258
    rw [hA2] at g258
    have HO := Lh ho
    have HK := Lh (HKn.out.add (Below.refl _ _) (G := fun W => W.cell? ⟨eb, eo + j, none⟩ = some (.slice o.a o.l.length o.c) ∧ OutW o W) (fun W hW => ⟨(hW.cell (p := ⟨eb, eo + j, none⟩) (lt_of_cell hec)).trans hec, OutW.stays _ _ _ how hW⟩))
    have HK := St.hdrewN HK 1
    clear ho how
    obtain ⟨z, hz, hzv⟩ : ∃ z : Bool, pB (TermsOk hd0 (o.l.map TermI.L)) = z ∧ Hid (SoFar z v (EndOk T.L hd0 (j : Int))) := by
     by_cases a2 : TermsOk hd0 (o.l.map TermI.L)
     ·exact ⟨true, pB_true a2, Lh (.inr ⟨rfl, fun _ => ⟨_, endsL_at HO.out, a2⟩⟩)⟩
     ·refine ⟨false, pB_false a2, Lh (.inl ⟨rfl, HNN.out fun H => a2 ?_⟩)⟩
      obtain ⟨l, h1, h2⟩ := H.2.1 b60
      have h3 := endsL_at HO.out
      have h1' : T.L.ends[j]? = some l := h1
      rw [h1'] at h3; injection h3 with h3; subst h3; exact h2
    have H2 := Lh hz
    clear hz b5 b6 b4
    go_region_held3 (fun W => W.cell? ⟨wr.heap.size, 2, none⟩ = some (.int .i64 j) ∧ W.cell? ⟨wr.heap.size, 0, none⟩ = some (.int .i64 hd0) ∧ W.cell? ⟨w.heap.size, 258, none⟩ = some (.slice (some ⟨eb, eo, none⟩) T.es.length T.ec) ∧ W.cell? ⟨eb, eo + j, none⟩ = some (.slice o.a o.l.length o.c))
     (first | exact ⟨HK.out.now.2.1 2 _ rfl, HK.out.now.2.1 0 _ rfl, HK.out.now.2.2.2.1.cell1 g258, HK.out.now.1.1⟩ | go_keep)
     ((go_at_call 89; refine (rterms_st HK (fun _ h => h.1.2) o.c hd0 z H2).mono ?_; rintro e5 w5 ⟨rfl, HK⟩))
    go_wp2_with fail
    go_meet
    exact ⟨z, rfl, hzv, Lh (HK.out.weaken fun _ h => h.2)⟩
 case rest =>
 clear HKn r0 r1 r2 p8 p6 HK
 obtain ⟨b, rfl, hb, HK⟩ := hcut
 obtain ⟨bb, hbb⟩ : ∃ bb, wr.heap.size = bb := ⟨_, rfl⟩
 rw [hbb] at HK HFN ⊢
 clear hbb l1 l2 b4 b5
 go_wp2_with fail
 go_loopw [4, 11] (fun s i wq => ∃ (b : Bool) (k : Nat), k ≤ K ∧ i = .int .i64 k ∧ s = .bool b ∧ Hid (SoFar b v (EndOk T.L hd0 e ∧ NextsTo T.L hd0 nx k)) ∧ Hid (St w0 wq (fun W => BoxC bb [.int .i64 hd0, .slice na nx.length nc, .int .i64 e] W ∧ IntsAt na nx W ∧ TabBox w.heap.size cs W ∧ F W))) (fun _ i _ => K - (intOf i).toNat)
 case atStart => exact ⟨b, 0, by omega, rfl, rfl, Lh (hb.out.mono fun h => ⟨h, fun c hc => by simp at hc⟩), HK⟩
 case round =>
 clear HK hb
 obtain ⟨b, k, hk, rfl, rfl, hb, HK⟩ := hrel
 by_cases hlt2 : k < K
 case neg =>
  obtain rfl : k = K := by omega
  have hd : decide (k < k) = false := by simp
  have HSF : Hid (SoFar b v (((HeadK T.L k ∧ ∀ a ∈ T.L.acts, ActOk T.L a) ∧ ∀ l ∈ T.L.ends, l.length ≤ 64) ∧ NodesTo T.L k T.ns (m + 1))) := Lh (hb.out.mono fun h => ⟨HOK.out.1, HYN.out ⟨HHD.out, h.1, by
   have h2 := h.2
   rw [← HB3.out] at h2
   exact h2.all⟩⟩)
  clear hb
  go_wp2_with fail
  exact ⟨⟨b, m + 1, by omega, by go_num, rfl, HSF, HFN.out _ HK⟩, by simp [intOf]; omega⟩
 rcases hb.out with ⟨rfl, rfl⟩ | ⟨rfl, hok2⟩
 ·clear hb
  go_wp2_with fail
  exact ⟨⟨false, m + 1, by omega, by go_num, rfl, Lh (.inl ⟨rfl, rfl⟩), HFN.out _ HK⟩, by simp [intOf]; omega⟩
 have HOK2 := Lh hok2
 clear hb hok2
 have hkn : k < nx.length := by have := HB3.out; omega
 obtain ⟨xb, xo, x, hXA, hxk, hx64, hxc⟩ := HK.out.now.2.1.at_ hkn
 have HXK := Lh hxk
 have HX64 := Lh hx64
 obtain ⟨z, hz, hzv⟩ : ∃ z : Bool, pB (NextOk T.L hd0 x) = z ∧ Hid (SoFar z v (EndOk T.L hd0 e ∧ NextsTo T.L hd0 nx (k + 1))) := by
  by_cases a2 : NextOk T.L hd0 x
  ·exact ⟨true, pB_true a2, Lh (.inr ⟨rfl, HOK2.out.1, HOK2.out.2.next HXK.out a2⟩)⟩
  ·exact ⟨false, pB_false a2, Lh (.inl ⟨rfl, HNN.out fun H => a2 (H.2.2 x (List.mem_of_getElem? HXK.out))⟩)⟩
 have H2 := Lh hz
 have hki : (k : Int) < (nx.length : Int) := by omega
 have hk0 : (0 : Int) ≤ (k : Int) := by omega
 have hu := Tryz.underlying49
 have hin : (Tryz.prog.info? 49).map (·.size) = some cs.toList.length := by rw [Array.length_toList, hC.size]; kernel_rfl
 have hsub : Hid (na = some ⟨xb, xo, none⟩) := Lh hXA
 have HKx := Lh (HK.out.add (Below.refl _ _) (G := fun W => W.cell? ⟨xb, xo + k, none⟩ = some (.int .i64 x)) (fun W hW => (hW.cell (p := ⟨xb, xo + k, none⟩) (lt_of_cell hxc)).trans hxc))
 have HK := St.hdrewN HKx 1
 clear hz hxk hx64 hXA HKx
 go_wp2_with fail
 have hca : cs.toList.toArray = cs := Array.toArray_toList
 refine wp_region_held_drew (by kernel_rfl) (S := fun W => W.rangeAt w.heap.size 0 cs.toList ∧ W.cell? ⟨bb, 0, none⟩ = some (.int .i64 hd0) ∧ W.cell? ⟨bb, 1, none⟩ = some (.slice (some ⟨xb, xo, none⟩) nx.length nc) ∧ W.cell? ⟨bb, 2, none⟩ = some (.int .i64 e) ∧ W.cell? ⟨xb, xo + k, none⟩ = some (.int .i64 x))
  ⟨rangeAt_box HK.out.now.2.2.2.1, HK.out.now.2.1 0 _ rfl, (HK.out.now.2.1 1 _ rfl).trans (by rw [hsub.out]), HK.out.now.2.1 2 _ rfl, HK.out.now.1⟩ (fun hHeld => ?_)
 refine wpAnyH_take (i := 0) (v := .agg cs.toList.toArray) rfl (by kernel_rfl) (by kernel_rfl) (by kernel_rfl) (fun _ _ _ h => h) (yieldsIf_load_mid (by rfl) _ _ rfl _ _ rfl cs.toList _ (fun w hw => hw.1) hu rfl hin) (by assumption) ?_
 rw [hca]
 (try simp only [Act.put, List.setIfInBounds_toArray, List.set_cons_zero, List.set_cons_succ])
 refine wpAnyH_take (i := 1) (v := ?_) rfl (by kernel_rfl) (by kernel_rfl) (by kernel_rfl) (fun _ _ _ h => h) (Or.inl ⟨by first | kernel_rfl | rfl, ?_⟩) (by assumption) ?_
 rotate_left
 ·intro w hSw; (try dsimp only at hSw); go_simp; (try with_reducible rfl)
 (try simp only [Act.put, zq1, zq2, zq3, zq4, zq5, zq6])
 refine wpAnyH_take (i := 2) (v := ?_) rfl (by kernel_rfl) (by kernel_rfl) (by kernel_rfl) (fun _ _ _ h => h) (Or.inl ⟨by first | kernel_rfl | rfl, ?_⟩) (by assumption) ?_
 rotate_left
 ·intro w hSw; (try dsimp only at hSw); go_simp; (try with_reducible rfl)
 (try simp only [Act.put, zq1, zq2, zq3, zq4, zq5, zq6])
 refine wpAnyH_take (i := 3) (v := ?_) rfl (by kernel_rfl) (by kernel_rfl) (by kernel_rfl) (fun _ _ _ h => h) (Or.inl ⟨by first | kernel_rfl | rfl, ?_⟩) (by assumption) ?_
 rotate_left
 ·intro w hSw; (try dsimp only at hSw); go_simp; (try with_reducible rfl)
 (try simp only [Act.put, zq1, zq2, zq3, zq4, zq5, zq6])
 refine wpAnyH_take (i := 4) (v := ?_) rfl (by kernel_rfl) (by kernel_rfl) (by kernel_rfl) (fun _ _ _ h => h) (Or.inl ⟨by first | kernel_rfl | rfl, ?_⟩) (by assumption) ?_
 rotate_left
 ·intro w hSw; (try dsimp only at hSw); go_simp; (try with_reducible rfl)
 (try simp only [Act.put, zq1, zq2, zq3, zq4, zq5, zq6])
 refine wpAnyH_take (i := 5) (v := ?_) rfl (by kernel_rfl) (by kernel_rfl) (by kernel_rfl) (fun _ _ _ h => h) (Or.inl ⟨by first | kernel_rfl | rfl, ?_⟩) (by assumption) ?_
 rotate_left
 ·intro w hSw; (try dsimp only at hSw); go_simp; (try with_reducible rfl)
 (try simp only [Act.put, zq1, zq2, zq3, zq4, zq5, zq6])
 refine wpAnyH_take (i := 6) (v := ?_) rfl (by kernel_rfl) (by kernel_rfl) (by kernel_rfl) (fun _ _ _ h => h) (Or.inl ⟨by first | kernel_rfl | rfl, ?_⟩) (by assumption) ?_
 rotate_left
 ·intro w hSw; (try dsimp only at hSw); go_simp; (try with_reducible rfl)
 (try simp only [Act.put, zq1, zq2, zq3, zq4, zq5, zq6])
 refine wpAnyH_ready (rs := [7]) (by kernel_rfl) (by simp) (AllReadyH.cons rfl (fun K hK => ?_) AllReadyH.nil)
 go_simp
 refine (rnext_st HK cs T hC (fun _ h => HT.out _ h.2.2.2.2) hd0 (some ⟨xb, xo, none⟩) nx.length nc e x z H2 hl1 hl2 b1 b2 HX64.out).mono ?_
 rintro e5 w5 ⟨rfl, HK⟩
 refine hK.out _ _ (⟨rangeAt_box HK.out.now.2.2.2.1, HK.out.now.2.1 0 _ rfl, (HK.out.now.2.1 1 _ rfl).trans (by rw [hsub.out]), HK.out.now.2.1 2 _ rfl, HK.out.now.1⟩) (fun hHeld => ?_)
 clear hK K
 (try simp only [Act.put, zq1, zq2, zq3, zq4, zq5, zq6])
 refine wpAnyH_take (i := 8) (v := ?_) rfl (by kernel_rfl) (by kernel_rfl) (by kernel_rfl) (fun _ _ _ h => h) (Or.inl ⟨by first | kernel_rfl | rfl, ?_⟩) (by assumption) ?_
 rotate_left
 ·intro w hSw; (try dsimp only at hSw); go_simp; (try with_reducible rfl)
 (try simp only [Act.put, zq1, zq2, zq3, zq4, zq5, zq6])
 refine wpAnyH_done (by kernel_rfl) ?_ _
 go_wp2_with fail
 exact ⟨⟨z, k + 1, by omega, by go_num, rfl, hzv, Lh (HK.out.weaken fun _ h => h.2)⟩, by simp [intOf]; omega⟩
end
end
end Go.Proofs.YtlmkokeapbleoaaGreat
