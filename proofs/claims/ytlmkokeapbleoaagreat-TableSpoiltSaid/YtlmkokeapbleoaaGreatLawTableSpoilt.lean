/- umlautlaw17.TableSpoilt: the walk. Of what is compiled, with one number another one, it is told whether it is right still. Condition: none beyond the row's own. -/
import Derived.Test.YtlmkokeapbleoaaGreatV16
import Derived.Test.YtlmkokeapbleoaaGreatV17
namespace Go.Proofs.YtlmkokeapbleoaaGreat
open Go.RowKit
set_option linter.unusedVariables false
set_option linter.unusedSimpArgs false
theorem nxtSL_len (D : DescL) (ls : List Int) (S : LayS) (q : Int) (wd : List Int) (k : Nat) : (nxtSL D ls S q wd k).2.length = k := by
  induction k with
  | zero => rfl
  | succ k ih => simp only [nxtSL, List.length_append, List.length_cons, List.length_nil, ih]
theorem layL_nx {D : DescL} {ls : List Int} (f : Nat) : ∀ (k : Nat) (S : LayS) (ns : List NodeL) (x : LayS × List NodeL), layL D ls f k S ns = some x → (∀ n ∈ ns, n.next.length = ls.length) → ∀ n ∈ x.2, n.next.length = ls.length := by
  induction f with
  | zero => intro k S ns x h hn; simp only [layL, Option.some.injEq] at h; subst h; exact hn
  | succ f ih =>
    intro k S ns x h hn
    simp only [layL] at h
    split at h
    · cases h
    · split at h
      · simp only [Option.some.injEq] at h; subst h; exact hn
      · refine ih _ _ _ _ h fun n hm => ?_
        rcases List.mem_append.1 hm with hm | hm
        · exact hn n hm
        · rw [List.mem_singleton] at hm; subst hm; exact nxtSL_len _ _ _ _ _ _
/-- the nodes of what is compiled have a number for each class, and there is one -/
theorem comp_nx {d : DescI} {T : TabI} (h : CompSaid d T.L 0) : ∀ x ∈ T.ns, 0 < x.nx.length := by
  rcases h with ⟨h, _⟩ | ⟨_, h⟩
  · cases h
  rcases h with ⟨h, _⟩ | ⟨_, h⟩
  · cases h
  rcases h with ⟨h, _⟩ | ⟨_, h⟩
  · cases h
  rcases h with ⟨h, _⟩ | ⟨P, hP, h⟩
  · cases h
  rcases h with ⟨h, _⟩ | ⟨_, y, hy, hT⟩
  · cases h
  intro x hx
  have h1 := layL_nx _ _ _ _ _ hy (fun n hn => by cases hn) x.L (by
    have h2 : T.L.nodes = y.2 := by rw [hT]; rfl
    rw [← h2]
    exact List.mem_map.2 ⟨x, hx, rfl⟩)
  have h3 : x.nx.length = (P.map leastI).length := h1
  rw [h3, List.length_map]
  rcases P with _ | ⟨p, P⟩
  · have := (bytes_count hP).2 0 (by decide)
    simp [classI] at this
  · simp
theorem mod_u {a : Int} {n : Nat} (h0 : 0 < n) (h1 : n ≤ 9223372036854775807) : IntKind.u64.wrap (n : Int) = (n : Int) ∧ ∃ k : Nat, k < n ∧ wrap64 ((IntKind.u64.wrap a).tmod (n : Int)) = (k : Int) := by
  have hn : IntKind.u64.wrap (n : Int) = (n : Int) := by simp [IntKind.wrap, IntKind.bits, IntKind.signed]; omega
  have ha : 0 ≤ IntKind.u64.wrap a := by simp [IntKind.wrap, IntKind.bits, IntKind.signed]; omega
  refine ⟨hn, ?_⟩
  generalize IntKind.u64.wrap a = u at ha ⊢
  rw [Int.tmod_eq_emod_of_nonneg ha]
  have h2 := Int.emod_nonneg u (b := (n : Int)) (by omega)
  have h3 := Int.emod_lt_of_pos u (b := (n : Int)) (by omega)
  refine ⟨(u % n).toNat, by omega, ?_⟩
  unfold wrap64
  omega
theorem mod_uu {a : Int} {n : Nat} (h0 : 0 < n) (h1 : n ≤ 9223372036854775807) : IntKind.u64.wrap (n : Int) = (n : Int) ∧ ∃ k : Nat, k < n ∧ (IntKind.u64.wrap a).tmod (n : Int) = (k : Int) := by
  have hn : IntKind.u64.wrap (n : Int) = (n : Int) := by simp [IntKind.wrap, IntKind.bits, IntKind.signed]; omega
  have ha : 0 ≤ IntKind.u64.wrap a := by simp [IntKind.wrap, IntKind.bits, IntKind.signed]; omega
  refine ⟨hn, ?_⟩
  generalize IntKind.u64.wrap a = u at ha ⊢
  rw [Int.tmod_eq_emod_of_nonneg ha]
  have h2 := Int.emod_nonneg u (b := (n : Int)) (by omega)
  have h3 := Int.emod_lt_of_pos u (b := (n : Int)) (by omega)
  exact ⟨(u % n).toNat, by omega, by omega⟩
theorem mod_u7 {a : Int} {n : Nat} (h0 : 0 < n) (h1 : n ≤ 9223372036854775807) : ∃ k : Nat, k < n ∧ wrap64 ((IntKind.u64.wrap ((IntKind.u64.wrap a).tdiv 7)).tmod (n : Int)) = (k : Int) := by
  generalize (IntKind.u64.wrap a).tdiv 7 = b
  have ha : 0 ≤ IntKind.u64.wrap b := by simp [IntKind.wrap, IntKind.bits, IntKind.signed]; omega
  generalize IntKind.u64.wrap b = u at ha ⊢
  rw [Int.tmod_eq_emod_of_nonneg ha]
  have h2 := Int.emod_nonneg u (b := (n : Int)) (by omega)
  have h3 := Int.emod_lt_of_pos u (b := (n : Int)) (by omega)
  refine ⟨(u % n).toNat, by omega, ?_⟩
  unfold wrap64
  omega
theorem mod_lit (a : Int) (m : Nat) (h0 : 0 < m) : ∃ k : Nat, k < m ∧ (IntKind.u64.wrap a).tmod (m : Int) = (k : Int) := by
  have ha : 0 ≤ IntKind.u64.wrap a := by simp [IntKind.wrap, IntKind.bits, IntKind.signed]; omega
  generalize IntKind.u64.wrap a = u at ha ⊢
  rw [Int.tmod_eq_emod_of_nonneg ha]
  have h2 := Int.emod_nonneg u (b := (m : Int)) (by omega)
  have h3 := Int.emod_lt_of_pos u (b := (m : Int)) (by omega)
  exact ⟨(u % m).toNat, by omega, by omega⟩
section
variable {n0 : Nat} {w2 w3 W : World} {T : TabI}
theorem OwT.nodeE (h : OwT n0 w2 w3 W T) {i : Nat} {x : NodeI} (hx : T.ns[i]? = some x) : ∃ nb noff y, T.na = some ⟨nb, noff, none⟩ ∧ (n0 ≤ nb ∧ nb < w2.heap.size) ∧ W.cell? ⟨nb, noff + i * 3 + 2, none⟩ = some (.int .i64 y) ∧ W.frozen? ⟨nb, noff + i * 3 + 2, none⟩ = false := by
  obtain ⟨nb, noff, _, hA, hg, _⟩ := h.node hx
  obtain ⟨T', hS, hT⟩ := h.tab
  obtain ⟨x', hx', hsh⟩ := map_at hS.ns hx
  have hl := (List.getElem?_eq_some_iff.1 hx').1
  have hl0 := (List.getElem?_eq_some_iff.1 hx).1
  obtain ⟨nb2, noff2, n, hA2, hn, hw, r0, r1, r2⟩ := hT.nodes.at_ hl
  rw [hS.na] at hA2
  obtain ⟨rfl, rfl⟩ := addr_inj hA hA2
  refine ⟨nb, noff, n.e, hA, hg, r2, ?_⟩
  have := h.fr (fun V hV => hV.nodes) hA (j := i * 3 + 2) (by omega)
  rwa [← Nat.add_assoc] at this
theorem OwT.actI (h : OwT n0 w2 w3 W T) {i : Nat} {x : ActI} (hx : T.acts[i]? = some x) : ∃ ab aoff y1 y2, T.aa = some ⟨ab, aoff, none⟩ ∧ (n0 ≤ ab ∧ ab < w2.heap.size) ∧ (W.cell? ⟨ab, aoff + i * 3, none⟩ = some (.int .i64 y1) ∧ W.frozen? ⟨ab, aoff + i * 3, none⟩ = false) ∧
    (W.cell? ⟨ab, aoff + i * 3 + 1, none⟩ = some (.int .i64 y2) ∧ W.frozen? ⟨ab, aoff + i * 3 + 1, none⟩ = false) := by
  obtain ⟨T', hS, hT⟩ := h.tab
  obtain ⟨x', hx', hsh⟩ := map_at hS.acts hx
  have hl := (List.getElem?_eq_some_iff.1 hx').1
  have hl0 := (List.getElem?_eq_some_iff.1 hx).1
  obtain ⟨ab, aoff, n, hA, hn, hw, r0, r1, r2⟩ := hT.acts.at_ hl
  rw [hS.aa] at hA
  refine ⟨ab, aoff, n.e, n.d, hA, h.bd (o := aoff + i * 3) fun V hV => ?_, ⟨r0, h.fr (fun V hV => hV.acts) hA (by omega)⟩, r1, ?_⟩
  · obtain ⟨ab2, aoff2, _, hA2, _, _, s0, _⟩ := hV.acts.at_ hl0
    obtain ⟨rfl, rfl⟩ := addr_inj hA hA2
    exact ⟨_, s0⟩
  · have := h.fr (fun V hV => hV.acts) hA (j := i * 3 + 1) (by omega)
    rwa [← Nat.add_assoc] at this
end
theorem OwT.drewN {n0 : Nat} {w2 w3 W : World} {T : TabI} (h : OwT n0 w2 w3 W T) (q : Nat) : OwT n0 w2 w3 (W.drewN q) T :=
  ⟨h.1, h.2.1, h.2.2.wild, h.2.2.blk, below_drewN h.2.2.bel q, h.2.2.frz⟩
theorem exec_load_row7 {P : Program} {op : Oper} {a : Act} {w : World} (ty : TypeId) (x : Operand) (ho : op.op = .load ty x)
    (g : Nat) (hx : a.eval x = .pointer (some ⟨g, 0, none⟩)) (t : TypeId) (cs : Array Value) (fr : Nat × Nat) (d : TypeDesc) (hS : w.heap[g]? = some (.cells cs t fr))
    (hu : P.underlying ty = some d) (hd : (match d with | .struct _ | .array _ _ => true | _ => false) = true) (hi : (P.info? ty).map (·.size) = some cs.size) : (execOp a.eval op).run P w = .ok (.value (.agg cs)) w := by
  unfold execOp
  simp only [ho, hx, Instr.loadAt, Instr.sureAddr, Sem.run_bind, Sem.run_pure, Result.andThen_ok, run_loadVar_row w g t ty cs fr d hS hu hd hi]
theorem mod6 (a : Int) : (IntKind.u64.wrap a).tmod 6 = 0 ∨ (IntKind.u64.wrap a).tmod 6 = 1 ∨ (IntKind.u64.wrap a).tmod 6 = 2 ∨ (IntKind.u64.wrap a).tmod 6 = 3 ∨ (IntKind.u64.wrap a).tmod 6 = 4 ∨ (IntKind.u64.wrap a).tmod 6 = 5 := by
  obtain ⟨k, hk, h⟩ := mod_lit a 6 (by decide)
  have h : (IntKind.u64.wrap a).tmod 6 = (k : Int) := h
  rw [h]
  omega
set_option maxRecDepth 100000 in
set_option maxHeartbeats 64000000 in
theorem TableSpoilt_walk (g : DescI) (a1 a2 a3 : Int) (w : World) (hD : DescR SpI g w) (w1 : (Lit.int .i64 a1).wf = true) (w2 : (Lit.int .i64 a2).wf = true) (w3 : (Lit.int .i64 a3).wf = true) :
    Calls Tryz.prog 7 #[.agg #[.int .i64 g.i, .int .i64 g.o, .int .i64 g.n, .int .i64 g.s, .slice g.ra g.rs.length g.rc, .slice g.fa g.fs.length g.fc], .int .i64 a1, .int .i64 a2, .int .i64 a3] w fun e w' => e = .returned (.bool true) ∧ Below w.heap.size w w' := by
  obtain ⟨z, hz⟩ : ∃ z, z = zeroT := ⟨_, rfl⟩
  have HZ : Hid ((Tryz.prog.info? 49).map (fun i => i.zero) = some (some (.agg z))) := Lib.hid (by rw [hz]; exact info_tabZ)
  have HZS : Hid (z.size = 259) := Lib.hid (by rw [hz]; exact zeroT_size)
  have HK0 : Hid (St w w (fun W => DescR SpI g W)) := Lib.hid (St.start fun W hW => hD.below SpI.lasts hW)
  have HK := St.box HK0 [.int .i64 g.i, .int .i64 g.o, .int .i64 g.n, .int .i64 g.s, .slice g.ra g.rs.length g.rc, .slice g.fa g.fs.length g.fc] 26
  have H64 : Hid (I64 a1 ∧ I64 a2 ∧ I64 a3) := Lib.hid ⟨I64.of_wf w1, I64.of_wf w2, I64.of_wf w3⟩
  obtain ⟨q0, q1, q2, q3, q4, q5⟩ := HK.out.now.1.c6
  clear hz hD
  go_enter Tryz.func7, Tryz.ntmps7
  go_wp2_with fail
  by_cases hsm : SmallD g.L
  case neg =>
    have HV := Lib.hid (pB_false hsm)
    refine (small6_st HK g (fun _ h => h.2) SpI.lasts false HV).mono ?_
    rintro e w1 ⟨rfl, HK1⟩
    go_wp2_with fail
    refine (awake17_st HK1).mono ?_
    rintro e w2 ⟨rfl, HK2⟩
    go_wp2_with fail
    go_ret
    exact ⟨rfl, HK2.out.2⟩
  have HV := Lib.hid (pB_true hsm)
  refine (small6_st HK g (fun _ h => h.2) SpI.lasts true HV).mono ?_
  rintro e w1 ⟨rfl, HK1⟩
  have HK1 : Hid (St w w1 (fun W => BoxC w.heap.size [.int .i64 g.i, .int .i64 g.o, .int .i64 g.n, .int .i64 g.s, .slice g.ra g.rs.length g.rc, .slice g.fa g.fs.length g.fc] W ∧ DescW g W)) := Lib.hid (HK1.out.weaken fun W h => ⟨h.1, hsm.lst h.2⟩)
  clear q0 q1 q2 q3 q4 q5 HK HK0 HV hsm
  obtain ⟨q0, q1, q2, q3, q4, q5⟩ := HK1.out.now.1.c6
  go_wp2_with fail
  refine (compile_stN HK1 g (fun _ h => h.2) (stageD g)).mono ?_
  rintro e w2 ⟨cs, T, v, rfl, HTC, HK2, HSD, HDP, HB2⟩
  have HCS : Hid ((Tryz.prog.info? 49).map (·.size) = some cs.size) := Lib.hid (by rw [HTC.out.size]; exact info_tabS)
  have HCZ : Hid (z.size = cs.size) := Lib.hid (by rw [HZS.out, HTC.out.size])
  have HC1 := Lib.hid (cells_one HTC.out)
  have HK3 := tab_box17 (cs := cs) HK2 z
  clear q0 q1 q2 q3 q4 q5
  obtain ⟨w3, hw3⟩ : ∃ z', (w2.alloc (.cells z 49)).setRow w2.heap.size cs = z' := ⟨_, rfl⟩
  rw [hw3] at HK3
  have p256 := HK3.out.now.1.cell1 HTC.out.c1
  have hb23 : Below w2.heap.size w2 w3 := by rw [← hw3]; exact below_setRow ((Below.refl _ _).alloc (Nat.le_refl _) _) (Nat.le_refl _) _
  have HB23 := Lib.hid hb23
  clear hb23
  by_cases hv : v = 0
  case neg =>
    have hvb : (v != 0) = true := by simpa using hv
    go_wp2_with (first
      | (refine wpList_allocZ rfl 49 rfl z HZ.out ?_)
      | (refine wpList_store_row rfl 49 _ _ rfl w2.heap.size cs rfl rfl 49 z (heap_alloc_new w2 _) HCS.out HCZ.out HC1.out ?_))
    (try rw [hw3])
    refine (awake17_st HK3).mono ?_
    rintro e w4 ⟨rfl, HK4⟩
    go_wp2_with fail
    go_ret
    exact ⟨rfl, HK4.out.2⟩
  subst hv
  by_cases hnl : T.ns.length = 0
  case pos =>
    rw [hnl] at p256
    go_wp2_with (first
      | (refine wpList_allocZ rfl 49 rfl z HZ.out ?_)
      | (refine wpList_store_row rfl 49 _ _ rfl w2.heap.size cs rfl rfl 49 z (heap_alloc_new w2 _) HCS.out HCZ.out HC1.out ?_))
    (try rw [hw3])
    refine (awake17_st HK3).mono ?_
    rintro e w4 ⟨rfl, HK4⟩
    go_wp2_with fail
    go_ret
    exact ⟨rfl, HK4.out.2⟩
  have hnb : ((T.ns.length : Int) == 0) = false := by rw [beq_eq_false_iff_ne]; omega
  have HTW : Hid (TabW T w3) := Lib.hid HK3.out.now.2.1
  obtain ⟨hwn, k, hk, hkk⟩ := mod_u (a := a2) (n := T.ns.length) (by omega) HTW.out.nodes.ln
  have hk1 : (k : Int) < (T.ns.length : Int) := by omega
  have h6 := mod6 a1
  have HN0 := Lib.hid (comp_nx HSD.out)
  have HO3 : Hid (OwT w1.heap.size w2 w3 w3 T) := Lib.hid (OwT.start HDP.out HB23.out)
  have HFIN : Hid (∀ V, OwT w1.heap.size w2 w3 V T → ∃ cs' T', Hid (TabC cs' T') ∧ Hid (St w V (fun W => TabBox w2.heap.size cs' W ∧ TabW T' W))) := Lib.hid fun V hO => by
    obtain ⟨T', hS, hT⟩ := hO.tab
    have h1 : TabBox w2.heap.size cs w3 := HK3.out.now.1
    have h2 : TabBox w2.heap.size cs V := (hO.2.2.blk _ (Array.getElem?_eq_some_iff.1 h1).1 (.inr (Nat.le_refl _))).trans h1
    exact ⟨cs, T', Lib.hid (hS.tabC HTC.out), Lib.hid ⟨fun W hW => ⟨TabBox.below h2 hW, hT.below hW⟩, below_to HK1.out.2 ((below_to HB2.out HB23.out).trans hO.2.2.bel)⟩⟩
  obtain ⟨x, hx⟩ : ∃ x, T.ns[k]? = some x := ⟨_, List.getElem?_eq_getElem hk⟩
  have HX := Lib.hid hx
  have HKK := Lib.hid hkk
  clear hx
  go_upto_block 0 with (first
    | (refine wpList_allocZ rfl 49 rfl z HZ.out ?_)
    | (refine wpList_store_row rfl 49 _ _ rfl w2.heap.size cs rfl rfl 49 z (heap_alloc_new w2 _) HCS.out HCZ.out HC1.out ?_))
  (try rw [hw3])
  clear hw3
  go_cut [8] from 41 (fun rv wr => rv = .bool false ∧ ∃ cs' T', Hid (TabC cs' T') ∧ Hid (St w wr (fun W => TabBox w2.heap.size cs' W ∧ TabW T' W)))
  case first =>
    rcases h6 with h6 | h6 | h6 | h6 | h6 | h6
    · obtain ⟨nb, noff, y, hA, hg, r0, rf, r1⟩ := HO3.out.node HX.out
      have HO4 := Lib.hid (HO3.out.set a3 r0 H64.out.2.2 hg)
      rw [hA] at p256
      clear hA hg
      go_wp2_with fail
      go_meet
      case rel => exact ⟨rfl, HFIN.out _ HO4.out⟩
    · obtain ⟨nb, noff, y, hA, hg, r0, rf⟩ := HO3.out.nodeE HX.out
      have HO4 := Lib.hid (HO3.out.set a3 r0 H64.out.2.2 hg)
      rw [hA] at p256
      clear hA hg
      go_wp2_with fail
      go_meet
      case rel => exact ⟨rfl, HFIN.out _ HO4.out⟩
    · have hxp := HN0.out x (List.mem_of_getElem? HX.out)
      obtain ⟨nb, noff, y, hA, hg, r0, rf, r1⟩ := HO3.out.node HX.out
      have hxl := ((HTW.out.nodes.it x (List.mem_of_getElem? HX.out)).2).ln
      obtain ⟨hwx, _⟩ := mod_u (a := 0) hxp hxl
      obtain ⟨jj, hj, hjj⟩ := mod_u7 (a := a2) hxp hxl
      obtain ⟨ib, ioff, y2, hI, hgi, s0, sf⟩ := HO3.out.nx HX.out hj
      have HO4 := Lib.hid (HO3.out.set a3 s0 H64.out.2.2 hgi)
      have hxb : ((x.nx.length : Int) == 0) = false := by rw [beq_eq_false_iff_ne]; omega
      have hji : (jj : Int) < (x.nx.length : Int) := by omega
      rw [hA] at p256
      rw [hI] at r1
      clear hA hg hI hgi
      go_wp2_with fail
      go_region
      go_wp2_with fail
      go_meet
      case rel => exact ⟨rfl, HFIN.out _ (HO4.out.drewN 1)⟩
    · obtain ⟨c, hc, hcc⟩ := mod_lit a2 256 (by decide)
      have hcc : (IntKind.u64.wrap a2).tmod 256 = (c : Int) := hcc
      have hcl : c < T.cls.length := by rw [HTC.out.ln]; exact hc
      obtain ⟨y, hy⟩ : ∃ y, T.cls[c]? = some y := ⟨_, List.getElem?_eq_getElem hcl⟩
      have pc := HK3.out.now.1.cell1 (HTC.out.cl c y hy)
      have hbx : w3.heap[w2.heap.size]? = some (.cells cs 49 (0, 0)) := HK3.out.now.1
      have pf : w3.frozen? ⟨w2.heap.size, c, none⟩ = false := by simp [World.frozen?, hbx]
      have hci : (c : Int) < 256 := by omega
      have HBX := Lib.hid hbx
      clear hbx hy hcl
      go_wp2_with fail
      go_meet
      case rel =>
        refine ⟨rfl, cs.setIfInBounds c (.int .u8 (a3 % 256)), { T with cls := T.cls.set c (a3 % 256) }, Lib.hid ?_, Lib.hid ⟨fun W hW => ⟨?_, ?_⟩, ?_⟩⟩
        · refine ⟨by simp [HTC.out.size], by simp [HTC.out.ln], fun x hx => ?_, fun i x hx => ?_, ?_, ?_, ?_⟩
          · rcases List.mem_or_eq_of_mem_set hx with hx | rfl
            · exact HTC.out.u8 x hx
            · omega
          · have hx2 : (T.cls.set c (a3 % 256))[i]? = some x := hx
            by_cases e : c = i
            · subst e
              have hl : c < T.cls.length := by rw [HTC.out.ln]; exact hc
              rw [List.getElem?_set_self hl] at hx2
              injection hx2 with hx2
              rw [← hx2, Array.getElem?_setIfInBounds_self_of_lt (by rw [HTC.out.size]; omega)]
            · rw [List.getElem?_set_ne e] at hx2
              rw [Array.getElem?_setIfInBounds_ne e]
              exact HTC.out.cl i x hx2
          · rw [Array.getElem?_setIfInBounds_ne (by omega)]; exact HTC.out.c1
          · rw [Array.getElem?_setIfInBounds_ne (by omega)]; exact HTC.out.c2
          · rw [Array.getElem?_setIfInBounds_ne (by omega)]; exact HTC.out.c3
        · exact TabBox.below (heap_setCell_same w3 w2.heap.size c cs 49 _ HBX.out) hW
        · have h := HDP.out W fun j _ hj => (hW.block j (by have := HB23.out.size; simp; omega)).trans ((heap_setCell_other _ _ _ _ (by show j ≠ w2.heap.size; omega)).trans (HB23.out.block j hj))
          exact ⟨h.1.nodes, h.1.acts, h.1.ends⟩
        · have h1 := HK1.out.2.size
          have h2 := HB2.out.size
          exact (below_to HK1.out.2 (below_to HB2.out HB23.out)).setCell (p := ⟨w2.heap.size, c, none⟩) (by show w.heap.size ≤ w2.heap.size; omega) _
    · by_cases ha : T.acts.length = 0
      · have p257 := HK3.out.now.1.cell1 HTC.out.c2
        rw [ha] at p257
        go_wp2_with fail
        go_meet
        case rel => exact ⟨rfl, HFIN.out _ HO3.out⟩
      · have p257 := HK3.out.now.1.cell1 HTC.out.c2
        obtain ⟨hwa, ka, hka, hkka⟩ := mod_uu (a := a2) (n := T.acts.length) (by omega) HTW.out.acts.ln
        obtain ⟨xa, hxa⟩ : ∃ x, T.acts[ka]? = some x := ⟨_, List.getElem?_eq_getElem hka⟩
        obtain ⟨ab, aoff, y1, y2, hA, hg, ⟨r0, rf⟩, s0, sf⟩ := HO3.out.actI hxa
        have HO4 := Lib.hid (HO3.out.set a3 r0 H64.out.2.2 hg)
        have hpos : decide (0 < T.acts.length) = true := by simp; omega
        have hpos2 : 0 < T.acts.length := by omega
        have hki : (ka : Int) < (T.acts.length : Int) := by omega
        rw [hA] at p257
        clear hA hg hxa ha
        go_wp2_with fail
        go_region
        go_wp2_with fail
        go_meet
        case rel => exact ⟨rfl, HFIN.out _ (HO4.out.drewN 1)⟩
    · by_cases ha : T.acts.length = 0
      · have p257 := HK3.out.now.1.cell1 HTC.out.c2
        rw [ha] at p257
        go_wp2_with fail
        go_meet
        case rel => exact ⟨rfl, HFIN.out _ HO3.out⟩
      · have p257 := HK3.out.now.1.cell1 HTC.out.c2
        obtain ⟨hwa, ka, hka, hkka⟩ := mod_uu (a := a2) (n := T.acts.length) (by omega) HTW.out.acts.ln
        obtain ⟨xa, hxa⟩ : ∃ x, T.acts[ka]? = some x := ⟨_, List.getElem?_eq_getElem hka⟩
        obtain ⟨ab, aoff, y1, y2, hA, hg, ⟨r0, rf⟩, s0, sf⟩ := HO3.out.actI hxa
        have HO4 := Lib.hid (HO3.out.set a3 s0 H64.out.2.2 hg)
        have hpos : decide (0 < T.acts.length) = true := by simp; omega
        have hpos2 : 0 < T.acts.length := by omega
        have hki : (ka : Int) < (T.acts.length : Int) := by omega
        rw [hA] at p257
        clear hA hg hxa ha
        go_wp2_with fail
        go_region
        go_wp2_with fail
        go_meet
        case rel => exact ⟨rfl, HFIN.out _ (HO4.out.drewN 1)⟩
  case rest =>
    obtain ⟨rfl, cs', T', HTC', HK'⟩ := hcut
    obtain ⟨bb, hbb⟩ : ∃ z, w2.heap.size = z := ⟨_, rfl⟩
    rw [hbb] at HK' ⊢
    have HI : Hid ((Tryz.prog.info? 49).map (·.size) = some cs'.size) := Lib.hid (by rw [HTC'.out.size]; exact info_tabS)
    obtain ⟨vv, hvv0⟩ : ∃ z, pB (TabOk T'.L) = z := ⟨_, rfl⟩
    have HCK := Lib.hid hvv0
    have hvv : (vv == vv) = true := by simp
    have HFT : Hid (∀ W, TabBox bb cs' W ∧ TabW T' W → TabW T' W) := Lib.hid fun W h => h.2
    clear hvv0 HK3 HDP p256 hbb h6 hkk hk hk1 hnb hnl hwn
    go_wp2_with fail
    have HK1 := St.hdrewN HK' 1
    refine wp_region_held_drew (by kernel_rfl) (S := fun W => TabBox bb cs' W) HK1.out.now.1 (fun hHeld => ?_)
    refine wpAnyH_take (i := 0) (v := .agg cs') rfl (by kernel_rfl) (by kernel_rfl) (by kernel_rfl) (fun _ _ _ h => h) (.inl ⟨by kernel_rfl, ?_⟩) (by assumption) ?_
    · intro w5 hSw
      exact exec_load_row7 49 (.tmp 9) rfl bb rfl 49 cs' (0, 0) _ hSw Tryz.underlying49 rfl HI.out
    (try simp only [Act.put, List.getElem_toArray, List.getElem_cons_succ, List.getElem_cons_zero, List.setIfInBounds_toArray, List.set_cons_zero, List.set_cons_succ])
    refine wpAnyH_take (i := 2) (v := .agg cs') rfl (by kernel_rfl) (by kernel_rfl) (by kernel_rfl) (fun _ _ _ h => h) (.inl ⟨by kernel_rfl, ?_⟩) (by assumption) ?_
    · intro w5 hSw
      exact exec_load_row7 49 (.tmp 9) rfl bb rfl 49 cs' (0, 0) _ hSw Tryz.underlying49 rfl HI.out
    (try simp only [Act.put, List.getElem_toArray, List.getElem_cons_succ, List.getElem_cons_zero, List.setIfInBounds_toArray, List.set_cons_zero, List.set_cons_succ])
    refine wpAnyH_ready (rs := [1]) (by kernel_rfl) (by simp) (AllReadyH.cons rfl (fun K hK => ?_) AllReadyH.nil)
    go_simp
    refine (tCheck_st HK1 cs' T' HTC'.out HFT.out vv HCK).mono ?_
    rintro e w4 ⟨rfl, HK4⟩
    refine hK.out _ _ (HK4.out.now.1) (fun hHeld => ?_)
    clear hK K
    (try simp only [Act.put, List.getElem_toArray, List.getElem_cons_succ, List.getElem_cons_zero, List.setIfInBounds_toArray, List.set_cons_zero, List.set_cons_succ])
    refine wpAnyH_ready (rs := [3]) (by kernel_rfl) (by simp) (AllReadyH.cons rfl (fun K hK => ?_) AllReadyH.nil)
    go_simp
    refine (rCheck_st HK4 cs' T' HTC'.out HFT.out vv HCK).mono ?_
    rintro e w5 ⟨rfl, HK5⟩
    refine hK.out _ _ (HK5.out.now.1) (fun hHeld => ?_)
    clear hK K
    (try simp only [Act.put, List.getElem_toArray, List.getElem_cons_succ, List.getElem_cons_zero, List.setIfInBounds_toArray, List.set_cons_zero, List.set_cons_succ])
    refine wpAnyH_take (i := 4) (v := ?_) rfl (by kernel_rfl) (by kernel_rfl) (by kernel_rfl) (fun _ _ _ h => h) (Or.inl ⟨by first | kernel_rfl | rfl, ?_⟩) (by assumption) ?_
    rotate_left
    · intro w hSw; (try dsimp only at hSw); go_simp; (try with_reducible rfl)
    (try simp only [Act.put, List.getElem_toArray, List.getElem_cons_succ, List.getElem_cons_zero, List.setIfInBounds_toArray, List.set_cons_zero, List.set_cons_succ])
    refine wpAnyH_take (i := 5) (v := ?_) rfl (by kernel_rfl) (by kernel_rfl) (by kernel_rfl) (fun _ _ _ h => h) (Or.inl ⟨by first | kernel_rfl | rfl, ?_⟩) (by assumption) ?_
    rotate_left
    · intro w hSw; (try dsimp only at hSw); go_simp; (try with_reducible rfl)
    (try simp only [Act.put, List.getElem_toArray, List.getElem_cons_succ, List.getElem_cons_zero, List.setIfInBounds_toArray, List.set_cons_zero, List.set_cons_succ])
    refine wpAnyH_ready (rs := [6]) (by kernel_rfl) (by simp) (AllReadyH.cons rfl (fun K hK => ?_) AllReadyH.nil)
    go_simp
    refine (awake17_st HK5).mono ?_
    rintro e w7 ⟨rfl, HK7⟩
    refine hK.out _ _ (HK7.out.now.1) (fun hHeld => ?_)
    clear hK K
    (try simp only [Act.put, List.getElem_toArray, List.getElem_cons_succ, List.getElem_cons_zero, List.setIfInBounds_toArray, List.set_cons_zero, List.set_cons_succ])
    refine wpAnyH_take (i := 7) (v := ?_) rfl (by kernel_rfl) (by kernel_rfl) (by kernel_rfl) (fun _ _ _ h => h) (Or.inl ⟨by first | kernel_rfl | rfl, ?_⟩) (by assumption) ?_
    rotate_left
    · intro w hSw; (try dsimp only at hSw); go_simp; (try with_reducible rfl)
    (try simp only [Act.put, List.getElem_toArray, List.getElem_cons_succ, List.getElem_cons_zero, List.setIfInBounds_toArray, List.set_cons_zero, List.set_cons_succ])
    refine wpAnyH_take (i := 8) (v := ?_) rfl (by kernel_rfl) (by kernel_rfl) (by kernel_rfl) (fun _ _ _ h => h) (Or.inl ⟨by first | kernel_rfl | rfl, ?_⟩) (by assumption) ?_
    rotate_left
    · intro w hSw; (try dsimp only at hSw); go_simp; (try with_reducible rfl)
    (try simp only [Act.put, List.getElem_toArray, List.getElem_cons_succ, List.getElem_cons_zero, List.setIfInBounds_toArray, List.set_cons_zero, List.set_cons_succ])
    refine wpAnyH_done (by kernel_rfl) ?_ _
    go_wp2_with fail
    go_ret
    exact ⟨rfl, HK7.out.2⟩
end Go.Proofs.YtlmkokeapbleoaaGreat
