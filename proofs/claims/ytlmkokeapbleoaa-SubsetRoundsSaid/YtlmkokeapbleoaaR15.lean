/- Contract of subset.Same. Condition: both descriptions are known; the budget is at most 4096. -/
import Derived.Test.YtlmkokeapbleoaaR14
import Derived.Test.YtlmkokeapbleoaaR11
import Derived.OwnWalk
set_option maxRecDepth 100000
set_option maxHeartbeats 64000000
set_option linter.unusedVariables false
set_option linter.unusedSimpArgs false
section
namespace Go.Proofs.Ytlmkokeapbleoaa
open Go.RowKit
open Pairs
section
variable {P : Program} {ops : Array Oper} {Q : Exit → Act → World → Prop} {md : Region.Mode} {S : World → Prop} {z : Nat}
theorem wpAnyZ_ready3 {i j k : Nat} {fuel : Nat} {listed : Array Bool} {a : Act} {w : World} {o o2 o3 : Oper} (hr : Region.ready md ops listed = [i, j, k]) (ho : ops[i]? = some o) (ho2 : ops[j]? = some o2) (ho3 : ops[k]? = some o3)
    (h : ∀ K' : Act → World → Prop, Shut (∀ a w, S w → (S w → wpAnyZ P md ops Q S z fuel (listed.setIfInBounds i true) a w) → K' a w) → if Region.wanted o (yielded ops a.tmps) = true then Oper.wp P o a w K' Q else K' (a.put o.dst undef) w)
    (h2 : ∀ K' : Act → World → Prop, Shut (∀ a w, S w → (S w → wpAnyZ P md ops Q S z fuel (listed.setIfInBounds j true) a w) → K' a w) → if Region.wanted o2 (yielded ops a.tmps) = true then Oper.wp P o2 a w K' Q else K' (a.put o2.dst undef) w)
    (h3 : ∀ K' : Act → World → Prop, Shut (∀ a w, S w → (S w → wpAnyZ P md ops Q S z fuel (listed.setIfInBounds k true) a w) → K' a w) → if Region.wanted o3 (yielded ops a.tmps) = true then Oper.wp P o3 a w K' Q else K' (a.put o3.dst undef) w) :
    wpAnyZ P md ops Q S z (fuel + 1) listed a w :=
  ⟨fun h0 => absurd (hr.symm.trans h0) (by simp), by
    rw [hr]
    intro q hq
    rcases List.mem_cons.1 hq with rfl | hq
    · exact wpOp_step ho (fun K' hK => h K' (fun a w hS hW => hK a w ⟨.inr hS, hW hS⟩))
    · rcases List.mem_cons.1 hq with rfl | hq
      · exact wpOp_step ho2 (fun K' hK => h2 K' (fun a w hS hW => hK a w ⟨.inr hS, hW hS⟩))
      · rcases List.mem_singleton.1 hq with rfl
        exact wpOp_step ho3 (fun K' hK => h3 K' (fun a w hS hW => hK a w ⟨.inr hS, hW hS⟩))⟩
end
theorem wp_insert {P : Program} {o : Oper} {a : Act} {t : TypeId} {m x y : Operand} {mv kv v : Value} {w w' : World} {K : Act → World → Prop} {Q : Exit → Act → World → Prop} (hop : o.op = Op.insert t m x y) (hm : a.eval m = mv) (hx : a.eval x = kv) (hy : a.eval y = v)
    (h : (Instr.mapUpdate t mv kv v).run P w = .ok () w') (hK : K (a.put o.dst undef) w') : Oper.wp P o a w K Q := by
  unfold Oper.wp
  simp [execOp, hop, hm, hx, hy, h, Result.andThen]
  exact hK
theorem infoPair : (Try.prog.info? 55).map (fun i => (i.zero, i.size, i.bytes)) = some (some (.agg #[.string ByteArray.empty, .string ByteArray.empty, .int .i64 0, .int .i64 0]), 4, 48) := by kernel_rfl
theorem fin_bd {d : DescI} {n : Nat} (h : DescOk d.L) (hn : d.n = (n : Int)) : ∀ f ∈ d.fs, 0 ≤ f.fr ∧ f.fr < (n : Int) := fun f hf => by
  have h1 := (h.fins f.L (by unfold DescI.L; exact List.mem_map.2 ⟨f, hf, rfl⟩)).1
  have e : d.L.n = d.n := rfl
  rw [e, hn] at h1
  exact h1
theorem rule_bd {d : DescI} {n : Nat} (h : DescOk d.L) (hn : d.n = (n : Int)) : ∀ r ∈ d.rs, (0 ≤ r.fr ∧ r.fr < (n : Int)) ∧ (0 ≤ r.dst ∧ r.dst < (n : Int)) := fun r hr => by
  have h1 := h.rules r.L (by unfold DescI.L; exact List.mem_map.2 ⟨r, hr, rfl⟩)
  have e : d.L.n = d.n := rfl
  have h2 := h1.1
  have h3 := h1.2.1
  rw [e, hn] at h2 h3
  exact ⟨h2, h3⟩
theorem said_row {s : SideI} {d : DescI} {ls : List Int} {n c : Nat} (h : SideSaid s d ls n) {x : Int} (hx : ls[c]? = some x) : ((s.tos.getD c (none, 0, [])).2.2).map (·.2.2) = rowsS d.rs n x := by
  have h1 := congrArg (fun l => l[c]?) h.1
  simp only [List.getElem?_map, hx, Option.map_some] at h1
  rcases hs : s.tos[c]? with _ | y
  · rw [hs] at h1; cases h1
  · rw [hs] at h1
    simp only [Option.map_some, Option.some.injEq] at h1
    rw [List.getD_eq_getElem?_getD, hs]
    exact h1
section
variable {w0 w : World} {F : World → Prop}
theorem SubSame_st (hK : Hid (St w0 w F)) (x y : DescI) (hx : ∀ W, F W → DescW x W) (hy : ∀ W, F W → DescW y W) (n : Int) (hn : n ≤ 4096) :
    Calls Try.prog 5 #[.agg #[.int .i64 x.i, .int .i64 x.o, .int .i64 x.n, .int .i64 x.s, .slice x.ra x.rs.length x.rc, .slice x.fa x.fs.length x.fc], .agg #[.int .i64 y.i, .int .i64 y.o, .int .i64 y.n, .int .i64 y.s, .slice y.ra y.rs.length y.rc, .slice y.fa y.fs.length y.fc], .int .i64 n] w (RetSame w0 x y n F) := by
  obtain ⟨j0, ji, jz0, jz1, jz2⟩ := info_parts infoPair
  have HKA := St.box hK [.int .i64 x.i, .int .i64 x.o, .int .i64 x.n, .int .i64 x.s, .slice x.ra x.rs.length x.rc, .slice x.fa x.fs.length x.fc] 26
  have HKB := St.box HKA [.int .i64 y.i, .int .i64 y.o, .int .i64 y.n, .int .i64 y.s, .slice y.ra y.rs.length y.rc, .slice y.fa y.fs.length y.fc] 26
  have hsz : (w.alloc (.cells [.int .i64 x.i, .int .i64 x.o, .int .i64 x.n, .int .i64 x.s, .slice x.ra x.rs.length x.rc, .slice x.fa x.fs.length x.fc].toArray 26)).heap.size = w.heap.size + 1 := by simp
  rw [hsz] at HKB
  clear hsz HKA
  have HX := Lib.hid hx
  have HY := Lib.hid hy
  clear hx hy
  obtain ⟨F2, hF2⟩ : ∃ G : World → Prop, (fun W => BoxC (w.heap.size + 1) [.int .i64 y.i, .int .i64 y.o, .int .i64 y.n, .int .i64 y.s, .slice y.ra y.rs.length y.rc, .slice y.fa y.fs.length y.fc] W ∧ BoxC w.heap.size [.int .i64 x.i, .int .i64 x.o, .int .i64 x.n, .int .i64 x.s, .slice x.ra x.rs.length x.rc, .slice x.fa x.fs.length x.fc] W ∧ F W) = G := ⟨_, rfl⟩
  have HF2 : Hid (∀ W, F2 W → BoxC (w.heap.size + 1) [.int .i64 y.i, .int .i64 y.o, .int .i64 y.n, .int .i64 y.s, .slice y.ra y.rs.length y.rc, .slice y.fa y.fs.length y.fc] W ∧ BoxC w.heap.size [.int .i64 x.i, .int .i64 x.o, .int .i64 x.n, .int .i64 x.s, .slice x.ra x.rs.length x.rc, .slice x.fa x.fs.length x.fc] W ∧ F W) := Lib.hid fun W h => by rw [← hF2] at h; exact h
  rw [hF2] at HKB
  clear hF2 hK
  obtain ⟨q0, q1, q2, q3, q4, q5⟩ := (HF2.out _ HKB.out.now).2.1.c6
  obtain ⟨p0, p1, p2, p3, p4, p5⟩ := (HF2.out _ HKB.out.now).1.c6
  go_enter Try.func5, Try.ntmps5
  go_wp2_with fail
  refine (Blocks_st HKB x y (fun W h => HX.out W (HF2.out W h).2.2) (fun W h => HY.out W (HF2.out W h).2.2)).mono ?_
  clear q0 q1 q2 q3 q4 q5 p0 p1 p2 p3 p4 p5 HKB
  rintro e w1 hr
  rcases hr with ⟨v, hv, rfl, HK1⟩ | ⟨HOK, hr⟩
  · have HV := Lib.hid hv
    rcases hv with ⟨rfl, _⟩ | ⟨rfl, _⟩
    · go_wp2_with fail
      go_ret3
      exact .inl ⟨2, HV.out, rfl, Lib.hid (HK1.out.weaken fun W h => (HF2.out W h).2.2)⟩
    · go_wp2_with fail
      go_ret3
      exact .inl ⟨1, HV.out, rfl, Lib.hid (HK1.out.weaken fun W h => (HF2.out W h).2.2)⟩
  have HOK := Lib.hid HOK
  rcases hr with ⟨hS, rfl, HK1⟩ | ⟨A, c, O, hS, hO, rfl, HK1⟩
  · have HS := Lib.hid hS
    clear hS
    go_wp2_with fail
    go_ret3
    exact .inr (.inl ⟨HOK.out, HS.out, rfl, Lib.hid (HK1.out.weaken fun W h => (HF2.out W h).2.2)⟩)
  have HS := Lib.hid hS
  clear hS
  go_wp2_with fail
  refine (Least_own HK1 (fun _ h => h.1) (by omega) c).mono ?_
  rintro e w2 ⟨B, cB, rfl, HO2, HB2⟩
  obtain ⟨ls, hls⟩ : ∃ l, (bodies O).map leastI = l := ⟨_, rfl⟩
  have HLS := Lib.hid hls
  have hOl : O.length = ls.length := by rw [← hls, List.length_map, bodies_length]
  rw [hls, hOl] at HO2
  have hlI : ∀ v ∈ ls, 0 ≤ v ∧ v ≤ 1114111 := by rw [← hls]; exact least_sym HS.out
  have HLI := Lib.hid hlI
  have hll : ls.length ≤ 1025 := by omega
  have HK2 : Hid (St w0 w2 (fun W => IntsAt B ls W ∧ F2 W)) := Lib.hid ((HK1.out.add HB2.out (G := fun W => IntsAt B ls W) (fun W hW => ⟨by
      rw [← List.map_eq_flatMap]
      exact Sl.of_own (own_below HO2.out hW), fun v hv => by have := HLI.out v hv; unfold I64; omega, by omega⟩)).weaken fun W h => ⟨h.1, h.2.2⟩)
  have HXOK := Lib.hid HOK.out.xok
  have HYOK := Lib.hid HOK.out.yok
  have HXONE := Lib.hid HOK.out.xone
  have HYONE := Lib.hid HOK.out.yone
  obtain ⟨nx, hnx⟩ : ∃ q : Nat, x.n = (q : Int) := Int.eq_ofNat_of_zero_le (by have h := HXOK.out.head.2.2.1; have e : x.L.n = x.n := rfl; omega)
  obtain ⟨ny, hny⟩ : ∃ q : Nat, y.n = (q : Int) := Int.eq_ofNat_of_zero_le (by have h := HYOK.out.head.2.2.1; have e : y.L.n = y.n := rfl; omega)
  have hnx1 : nx ≤ 1024 := by have h := HXOK.out.head.2.2.2.1; have e : x.L.n = x.n := rfl; omega
  have hny1 : ny ≤ 1024 := by have h := HYOK.out.head.2.2.2.1; have e : y.L.n = y.n := rfl; omega
  have HSTX := HXOK.out.head.2.2.2.2.1
  have HSTY := HYOK.out.head.2.2.2.2.1
  obtain ⟨qx, hqx⟩ : ∃ q : Nat, x.s = (q : Int) := Int.eq_ofNat_of_zero_le HSTX.1
  obtain ⟨qy, hqy⟩ : ∃ q : Nat, y.s = (q : Int) := Int.eq_ofNat_of_zero_le HSTY.1
  have hqxn : qx < nx := by have h := HSTX.2; have e : x.L.n = x.n := rfl; have e2 : x.L.s = x.s := rfl; omega
  have hqyn : qy < ny := by have h := HSTY.2; have e : y.L.n = y.n := rfl; have e2 : y.L.s = y.s := rfl; omega
  have HNX := Lib.hid hnx
  have HNY := Lib.hid hny
  have HQX := Lib.hid hqx
  have HQY := Lib.hid hqy
  have HOL := Lib.hid hOl
  clear HSTX HSTY hls hlI HO2 HB2 hOl hqx hqy hnx hny
  rw [HOL.out]
  go_upto_region 5 with fail
  go_cut [12, 13] (fun s12 s13 wq => ∃ (b1 b2 : Nat) (sx sy : SideI), s12 = .pointer (some ⟨b1, 0, none⟩) ∧ s13 = .pointer (some ⟨b2, 0, none⟩) ∧ Hid (SideSaid sx x ls nx) ∧ Hid (SideSaid sy y ls ny) ∧ Hid (St w0 wq (fun W => BoxC b1 (sideC sx) W ∧ BoxC b2 (sideC sy) W ∧ SideW sx W ∧ SideW sy W ∧ IntsAt B ls W ∧ F2 W)))
  case first =>
    have HXF : Hid (∀ V, Below w2.heap.size w2 V → (V.cell? ⟨w.heap.size, 0, none⟩ = some (.int .i64 x.i) ∧ V.cell? ⟨w.heap.size, 1, none⟩ = some (.int .i64 x.o) ∧ V.cell? ⟨w.heap.size, 2, none⟩ = some (.int .i64 x.n) ∧ V.cell? ⟨w.heap.size, 3, none⟩ = some (.int .i64 x.s) ∧ V.cell? ⟨w.heap.size, 4, none⟩ = some (.slice x.ra x.rs.length x.rc) ∧ V.cell? ⟨w.heap.size, 5, none⟩ = some (.slice x.fa x.fs.length x.fc)) ∧ (V.cell? ⟨w.heap.size + 1, 0, none⟩ = some (.int .i64 y.i) ∧ V.cell? ⟨w.heap.size + 1, 1, none⟩ = some (.int .i64 y.o) ∧ V.cell? ⟨w.heap.size + 1, 2, none⟩ = some (.int .i64 y.n) ∧ V.cell? ⟨w.heap.size + 1, 3, none⟩ = some (.int .i64 y.s) ∧ V.cell? ⟨w.heap.size + 1, 4, none⟩ = some (.slice y.ra y.rs.length y.rc) ∧ V.cell? ⟨w.heap.size + 1, 5, none⟩ = some (.slice y.fa y.fs.length y.fc))) := Lib.hid fun V hV =>
      ⟨(HF2.out _ (HK2.out.1 V hV).2).2.1.c6, (HF2.out _ (HK2.out.1 V hV).2).1.c6⟩
    refine wp_region_Z 9 (by kernel_rfl) (fun V => (V.cell? ⟨w.heap.size, 0, none⟩ = some (.int .i64 x.i) ∧ V.cell? ⟨w.heap.size, 1, none⟩ = some (.int .i64 x.o) ∧ V.cell? ⟨w.heap.size, 2, none⟩ = some (.int .i64 x.n) ∧ V.cell? ⟨w.heap.size, 3, none⟩ = some (.int .i64 x.s) ∧ V.cell? ⟨w.heap.size, 4, none⟩ = some (.slice x.ra x.rs.length x.rc) ∧ V.cell? ⟨w.heap.size, 5, none⟩ = some (.slice x.fa x.fs.length x.fc)) ∧ (V.cell? ⟨w.heap.size + 1, 0, none⟩ = some (.int .i64 y.i) ∧ V.cell? ⟨w.heap.size + 1, 1, none⟩ = some (.int .i64 y.o) ∧ V.cell? ⟨w.heap.size + 1, 2, none⟩ = some (.int .i64 y.n) ∧ V.cell? ⟨w.heap.size + 1, 3, none⟩ = some (.int .i64 y.s) ∧ V.cell? ⟨w.heap.size + 1, 4, none⟩ = some (.slice y.ra y.rs.length y.rc) ∧ V.cell? ⟨w.heap.size + 1, 5, none⟩ = some (.slice y.fa y.fs.length y.fc))) (HXF.out _ (Below.refl _ _).drew) (fun hHeld => ?_)
    have HP0 := Lib.hid (PStage.start w2).drew
    obtain ⟨u0, hu0⟩ : ∃ z, w2.drew = z := ⟨_, rfl⟩
    rw [hu0] at HP0 hHeld ⊢
    clear hu0
    refine wpAnyZ_take (i := 0) (v := ?_) rfl (by kernel_rfl) (by kernel_rfl) (by kernel_rfl) (by kernel_rfl) (fun _ _ _ h => h) (Or.inl ⟨by first | kernel_rfl | rfl, ?_⟩) (by assumption) ?_
    rotate_left
    · intro w hSw; (try dsimp only at hSw); go_simp; (try with_reducible rfl)
    (try simp only [Act.put, List.getElem_toArray, List.getElem_cons_succ, List.getElem_cons_zero, List.setIfInBounds_toArray, List.set_cons_zero, List.set_cons_succ])
    refine wpAnyZ_take (i := 1) (v := ?_) rfl (by kernel_rfl) (by kernel_rfl) (by kernel_rfl) (by kernel_rfl) (fun _ _ _ h => h) (Or.inl ⟨by first | kernel_rfl | rfl, ?_⟩) (by assumption) ?_
    rotate_left
    · intro w hSw; (try dsimp only at hSw); go_simp; (try with_reducible rfl)
    (try simp only [Act.put, List.getElem_toArray, List.getElem_cons_succ, List.getElem_cons_zero, List.setIfInBounds_toArray, List.set_cons_zero, List.set_cons_succ])
    refine wpAnyZ_take (i := 3) (v := ?_) rfl (by kernel_rfl) (by kernel_rfl) (by kernel_rfl) (by kernel_rfl) (fun _ _ _ h => h) (Or.inl ⟨by first | kernel_rfl | rfl, ?_⟩) (by assumption) ?_
    rotate_left
    · intro w hSw; (try dsimp only at hSw); go_simp; (try with_reducible rfl)
    (try simp only [Act.put, List.getElem_toArray, List.getElem_cons_succ, List.getElem_cons_zero, List.setIfInBounds_toArray, List.set_cons_zero, List.set_cons_succ])
    refine wpAnyZ_take (i := 4) (v := ?_) rfl (by kernel_rfl) (by kernel_rfl) (by kernel_rfl) (by kernel_rfl) (fun _ _ _ h => h) (Or.inl ⟨by first | kernel_rfl | rfl, ?_⟩) (by assumption) ?_
    rotate_left
    · intro w hSw; (try dsimp only at hSw); go_simp; (try with_reducible rfl)
    (try simp only [Act.put, List.getElem_toArray, List.getElem_cons_succ, List.getElem_cons_zero, List.setIfInBounds_toArray, List.set_cons_zero, List.set_cons_succ])
    refine wpAnyZ_ready3 (i := 2) (j := 6) (k := 7) (by kernel_rfl) rfl rfl rfl (fun K hK => ?_) (fun K hK => ?_) (fun K hK => ?_)
    · go_simp
      refine (sided_st (St.here (Lib.hid (HK2.out.step HP0.out.bel))) x (fun W h => HX.out W (HF2.out W h.2).2.2) HXOK HXONE (fun W h => h.1) hll cB nx HNX.out).mono ?_
      rintro e u1 ⟨sx, HSX, rfl, HKX, HDX⟩
      have HP1 := Lib.hid (HP0.out.call_x HKX.out.2 HDX.out)
      clear HKX HDX
      refine hK.out _ _ ((HXF.out _ HP1.out.bel)) (fun hHeld => ?_)
      clear hK K
      (try simp only [Act.put, List.getElem_toArray, List.getElem_cons_succ, List.getElem_cons_zero, List.setIfInBounds_toArray, List.set_cons_zero, List.set_cons_succ])
      refine wpAnyZ_ready3 (i := 5) (j := 6) (k := 7) (by kernel_rfl) rfl rfl rfl (fun K hK => ?_) (fun K hK => ?_) (fun K hK => ?_)
      · go_simp
        refine (sided_st (St.here (Lib.hid (HK2.out.step HP1.out.bel))) y (fun W h => HY.out W (HF2.out W h.2).2.2) HYOK HYONE (fun W h => h.1) hll cB ny HNY.out).mono ?_
        rintro e u2 ⟨sy, HSY, rfl, HKY, HDY⟩
        have HP2 := Lib.hid (HP1.out.call_y HKY.out.2 HDY.out)
        clear HKY HDY
        refine hK.out _ _ ((HXF.out _ HP2.out.bel)) (fun hHeld => ?_)
        clear hK K
        (try simp only [Act.put, List.getElem_toArray, List.getElem_cons_succ, List.getElem_cons_zero, List.setIfInBounds_toArray, List.set_cons_zero, List.set_cons_succ])
        refine wpAnyZ_ready2 (i := 6) (j := 7) (by kernel_rfl) rfl rfl (fun K hK => ?_) (fun K hK => ?_)
        · go_simp
          have HP3 := Lib.hid (HP2.out.alloc_a)
          obtain ⟨u3, hu3⟩ : ∃ z, u2.alloc (.cells #[.slice none 0 0, .slice none 0 0] 50) = z := ⟨_, rfl⟩
          rw [hu3] at HP3 ⊢
          clear hu3
          refine hK.out _ _ ((HXF.out _ HP3.out.bel)) (fun hHeld => ?_)
          clear hK K
          (try simp only [Act.put, List.getElem_toArray, List.getElem_cons_succ, List.getElem_cons_zero, List.setIfInBounds_toArray, List.set_cons_zero, List.set_cons_succ])
          refine wpAnyZ_ready (i := 7) (by kernel_rfl) rfl (fun K hK => ?_)
          go_simp
          have HP4 := Lib.hid (HP3.out.alloc_b)
          obtain ⟨u4, hu4⟩ : ∃ z, u3.alloc (.cells #[.slice none 0 0, .slice none 0 0] 50) = z := ⟨_, rfl⟩
          rw [hu4] at HP4 ⊢
          clear hu4
          refine hK.out _ _ ((HXF.out _ HP4.out.bel)) (fun hHeld => ?_)
          clear hK K
          (try simp only [Act.put, List.getElem_toArray, List.getElem_cons_succ, List.getElem_cons_zero, List.setIfInBounds_toArray, List.set_cons_zero, List.set_cons_succ])
          obtain ⟨b1, hb1⟩ : ∃ z, u2.heap.size = z := ⟨_, rfl⟩
          obtain ⟨b2, hb2⟩ : ∃ z, u3.heap.size = z := ⟨_, rfl⟩
          rw [hb1, hb2] at HP4
          (try rw [hb1])
          (try rw [hb2])
          clear hb1 hb2
          have hq1 := HP4.out.a b1 rfl
          have hq2 := HP4.out.b b2 rfl
          have hq12 : b2 ≠ b1 := fun e => HP4.out.ne b1 rfl (by rw [e])
          have c10 : u4.cell? ⟨b1, 0, none⟩ = some (.slice none 0 0) := by simp [World.cell?, hq1.2]
          have c11 : u4.cell? ⟨b1, 1, none⟩ = some (.slice none 0 0) := by simp [World.cell?, hq1.2]
          have f10 : u4.frozen? ⟨b1, 0, none⟩ = false := by simp [World.frozen?, hq1.2]
          have f11 : u4.frozen? ⟨b1, 1, none⟩ = false := by simp [World.frozen?, hq1.2]
          have HPUT := Lib.hid (fun uE hE => HP4.out.put rfl HK2.out uE (.slice sx.ta sx.tos.length sx.tc) (.slice sx.fa sx.fin.length sx.fc) (.slice sy.ta sy.tos.length sy.tc) (.slice sy.fa sy.fin.length sy.fc) hE rfl rfl)
          have hg2 : ((u4.setCell ⟨b1, 0, none⟩ (.slice sx.ta sx.tos.length sx.tc)).setCell ⟨b1, 1, none⟩ (.slice sx.fa sx.fin.length sx.fc)).heap[b2]? = some (.cells #[.slice none 0 0, .slice none 0 0] 50 (0, 0)) := (heap_setCell_other _ _ _ _ hq12).trans ((heap_setCell_other _ _ _ _ hq12).trans hq2.2)
          have HBE := Lib.hid (((HP4.out.bel.setCell (p := ⟨b1, 0, none⟩) hq1.1 (.slice sx.ta sx.tos.length sx.tc)).setCell (p := ⟨b1, 1, none⟩) hq1.1 (.slice sx.fa sx.fin.length sx.fc)))
          refine wpAnyZ_ready (i := 8) (by kernel_rfl) rfl (fun K hK => ?_)
          go_simp
          obtain ⟨uM, huM⟩ : ∃ v, (u4.setCell ⟨b1, 0, none⟩ (.slice sx.ta sx.tos.length sx.tc)).setCell ⟨b1, 1, none⟩ (.slice sx.fa sx.fin.length sx.fc) = v := ⟨_, rfl⟩
          rw [huM] at hg2 HBE
          (try rw [huM])
          have c20 : uM.cell? ⟨b2, 0, none⟩ = some (.slice none 0 0) := by simp [World.cell?, hg2]
          have c21 : uM.cell? ⟨b2, 1, none⟩ = some (.slice none 0 0) := by simp [World.cell?, hg2]
          have f20 : uM.frozen? ⟨b2, 0, none⟩ = false := by simp [World.frozen?, hg2]
          have f21 : uM.frozen? ⟨b2, 1, none⟩ = false := by simp [World.frozen?, hg2]
          refine hK.out _ _ ((HXF.out _ HBE.out)) (fun hHeld => ?_)
          clear hK K
          (try simp only [Act.put, List.getElem_toArray, List.getElem_cons_succ, List.getElem_cons_zero, List.setIfInBounds_toArray, List.set_cons_zero, List.set_cons_succ])
          clear c10 c11 f10 f11
          refine wpAnyZ_last (i := 9) rfl (by kernel_rfl) (by kernel_rfl) rfl (fun K hK => ?_)
          go_simp
          refine hK.out _ _ ?_
          clear hHeld hK K c20 c21 f20 f21
          (try simp only [Act.put, List.getElem_toArray, List.getElem_cons_succ, List.getElem_cons_zero, List.setIfInBounds_toArray, List.set_cons_zero, List.set_cons_succ])
          go_wp2_with fail
          go_meet
          exact ⟨b1, b2, sx, sy, rfl, rfl, HSX, HSY, Lib.hid (HPUT.out _ (by rw [← huM])).1⟩
        · go_simp
          have HP3 := Lib.hid (HP2.out.alloc_b)
          obtain ⟨u3, hu3⟩ : ∃ z, u2.alloc (.cells #[.slice none 0 0, .slice none 0 0] 50) = z := ⟨_, rfl⟩
          rw [hu3] at HP3 ⊢
          clear hu3
          refine hK.out _ _ ((HXF.out _ HP3.out.bel)) (fun hHeld => ?_)
          clear hK K
          (try simp only [Act.put, List.getElem_toArray, List.getElem_cons_succ, List.getElem_cons_zero, List.setIfInBounds_toArray, List.set_cons_zero, List.set_cons_succ])
          refine wpAnyZ_ready (i := 6) (by kernel_rfl) rfl (fun K hK => ?_)
          go_simp
          have HP4 := Lib.hid (HP3.out.alloc_a)
          obtain ⟨u4, hu4⟩ : ∃ z, u3.alloc (.cells #[.slice none 0 0, .slice none 0 0] 50) = z := ⟨_, rfl⟩
          rw [hu4] at HP4 ⊢
          clear hu4
          refine hK.out _ _ ((HXF.out _ HP4.out.bel)) (fun hHeld => ?_)
          clear hK K
          (try simp only [Act.put, List.getElem_toArray, List.getElem_cons_succ, List.getElem_cons_zero, List.setIfInBounds_toArray, List.set_cons_zero, List.set_cons_succ])
          obtain ⟨b1, hb1⟩ : ∃ z, u3.heap.size = z := ⟨_, rfl⟩
          obtain ⟨b2, hb2⟩ : ∃ z, u2.heap.size = z := ⟨_, rfl⟩
          rw [hb1, hb2] at HP4
          (try rw [hb1])
          (try rw [hb2])
          clear hb1 hb2
          have hq1 := HP4.out.a b1 rfl
          have hq2 := HP4.out.b b2 rfl
          have hq12 : b2 ≠ b1 := fun e => HP4.out.ne b1 rfl (by rw [e])
          have c10 : u4.cell? ⟨b1, 0, none⟩ = some (.slice none 0 0) := by simp [World.cell?, hq1.2]
          have c11 : u4.cell? ⟨b1, 1, none⟩ = some (.slice none 0 0) := by simp [World.cell?, hq1.2]
          have f10 : u4.frozen? ⟨b1, 0, none⟩ = false := by simp [World.frozen?, hq1.2]
          have f11 : u4.frozen? ⟨b1, 1, none⟩ = false := by simp [World.frozen?, hq1.2]
          have HPUT := Lib.hid (fun uE hE => HP4.out.put rfl HK2.out uE (.slice sx.ta sx.tos.length sx.tc) (.slice sx.fa sx.fin.length sx.fc) (.slice sy.ta sy.tos.length sy.tc) (.slice sy.fa sy.fin.length sy.fc) hE rfl rfl)
          have hg2 : ((u4.setCell ⟨b1, 0, none⟩ (.slice sx.ta sx.tos.length sx.tc)).setCell ⟨b1, 1, none⟩ (.slice sx.fa sx.fin.length sx.fc)).heap[b2]? = some (.cells #[.slice none 0 0, .slice none 0 0] 50 (0, 0)) := (heap_setCell_other _ _ _ _ hq12).trans ((heap_setCell_other _ _ _ _ hq12).trans hq2.2)
          have HBE := Lib.hid (((HP4.out.bel.setCell (p := ⟨b1, 0, none⟩) hq1.1 (.slice sx.ta sx.tos.length sx.tc)).setCell (p := ⟨b1, 1, none⟩) hq1.1 (.slice sx.fa sx.fin.length sx.fc)))
          refine wpAnyZ_ready (i := 8) (by kernel_rfl) rfl (fun K hK => ?_)
          go_simp
          obtain ⟨uM, huM⟩ : ∃ v, (u4.setCell ⟨b1, 0, none⟩ (.slice sx.ta sx.tos.length sx.tc)).setCell ⟨b1, 1, none⟩ (.slice sx.fa sx.fin.length sx.fc) = v := ⟨_, rfl⟩
          rw [huM] at hg2 HBE
          (try rw [huM])
          have c20 : uM.cell? ⟨b2, 0, none⟩ = some (.slice none 0 0) := by simp [World.cell?, hg2]
          have c21 : uM.cell? ⟨b2, 1, none⟩ = some (.slice none 0 0) := by simp [World.cell?, hg2]
          have f20 : uM.frozen? ⟨b2, 0, none⟩ = false := by simp [World.frozen?, hg2]
          have f21 : uM.frozen? ⟨b2, 1, none⟩ = false := by simp [World.frozen?, hg2]
          refine hK.out _ _ ((HXF.out _ HBE.out)) (fun hHeld => ?_)
          clear hK K
          (try simp only [Act.put, List.getElem_toArray, List.getElem_cons_succ, List.getElem_cons_zero, List.setIfInBounds_toArray, List.set_cons_zero, List.set_cons_succ])
          clear c10 c11 f10 f11
          refine wpAnyZ_last (i := 9) rfl (by kernel_rfl) (by kernel_rfl) rfl (fun K hK => ?_)
          go_simp
          refine hK.out _ _ ?_
          clear hHeld hK K c20 c21 f20 f21
          (try simp only [Act.put, List.getElem_toArray, List.getElem_cons_succ, List.getElem_cons_zero, List.setIfInBounds_toArray, List.set_cons_zero, List.set_cons_succ])
          go_wp2_with fail
          go_meet
          exact ⟨b1, b2, sx, sy, rfl, rfl, HSX, HSY, Lib.hid (HPUT.out _ (by rw [← huM])).1⟩
      · go_simp
        have HP2 := Lib.hid (HP1.out.alloc_a)
        obtain ⟨u2, hu2⟩ : ∃ z, u1.alloc (.cells #[.slice none 0 0, .slice none 0 0] 50) = z := ⟨_, rfl⟩
        rw [hu2] at HP2 ⊢
        clear hu2
        refine hK.out _ _ ((HXF.out _ HP2.out.bel)) (fun hHeld => ?_)
        clear hK K
        (try simp only [Act.put, List.getElem_toArray, List.getElem_cons_succ, List.getElem_cons_zero, List.setIfInBounds_toArray, List.set_cons_zero, List.set_cons_succ])
        refine wpAnyZ_ready2 (i := 5) (j := 7) (by kernel_rfl) rfl rfl (fun K hK => ?_) (fun K hK => ?_)
        · go_simp
          refine (sided_st (St.here (Lib.hid (HK2.out.step HP2.out.bel))) y (fun W h => HY.out W (HF2.out W h.2).2.2) HYOK HYONE (fun W h => h.1) hll cB ny HNY.out).mono ?_
          rintro e u3 ⟨sy, HSY, rfl, HKY, HDY⟩
          have HP3 := Lib.hid (HP2.out.call_y HKY.out.2 HDY.out)
          clear HKY HDY
          refine hK.out _ _ ((HXF.out _ HP3.out.bel)) (fun hHeld => ?_)
          clear hK K
          (try simp only [Act.put, List.getElem_toArray, List.getElem_cons_succ, List.getElem_cons_zero, List.setIfInBounds_toArray, List.set_cons_zero, List.set_cons_succ])
          refine wpAnyZ_ready (i := 7) (by kernel_rfl) rfl (fun K hK => ?_)
          go_simp
          have HP4 := Lib.hid (HP3.out.alloc_b)
          obtain ⟨u4, hu4⟩ : ∃ z, u3.alloc (.cells #[.slice none 0 0, .slice none 0 0] 50) = z := ⟨_, rfl⟩
          rw [hu4] at HP4 ⊢
          clear hu4
          refine hK.out _ _ ((HXF.out _ HP4.out.bel)) (fun hHeld => ?_)
          clear hK K
          (try simp only [Act.put, List.getElem_toArray, List.getElem_cons_succ, List.getElem_cons_zero, List.setIfInBounds_toArray, List.set_cons_zero, List.set_cons_succ])
          obtain ⟨b1, hb1⟩ : ∃ z, u1.heap.size = z := ⟨_, rfl⟩
          obtain ⟨b2, hb2⟩ : ∃ z, u3.heap.size = z := ⟨_, rfl⟩
          rw [hb1, hb2] at HP4
          (try rw [hb1])
          (try rw [hb2])
          clear hb1 hb2
          have hq1 := HP4.out.a b1 rfl
          have hq2 := HP4.out.b b2 rfl
          have hq12 : b2 ≠ b1 := fun e => HP4.out.ne b1 rfl (by rw [e])
          have c10 : u4.cell? ⟨b1, 0, none⟩ = some (.slice none 0 0) := by simp [World.cell?, hq1.2]
          have c11 : u4.cell? ⟨b1, 1, none⟩ = some (.slice none 0 0) := by simp [World.cell?, hq1.2]
          have f10 : u4.frozen? ⟨b1, 0, none⟩ = false := by simp [World.frozen?, hq1.2]
          have f11 : u4.frozen? ⟨b1, 1, none⟩ = false := by simp [World.frozen?, hq1.2]
          have HPUT := Lib.hid (fun uE hE => HP4.out.put rfl HK2.out uE (.slice sx.ta sx.tos.length sx.tc) (.slice sx.fa sx.fin.length sx.fc) (.slice sy.ta sy.tos.length sy.tc) (.slice sy.fa sy.fin.length sy.fc) hE rfl rfl)
          have hg2 : ((u4.setCell ⟨b1, 0, none⟩ (.slice sx.ta sx.tos.length sx.tc)).setCell ⟨b1, 1, none⟩ (.slice sx.fa sx.fin.length sx.fc)).heap[b2]? = some (.cells #[.slice none 0 0, .slice none 0 0] 50 (0, 0)) := (heap_setCell_other _ _ _ _ hq12).trans ((heap_setCell_other _ _ _ _ hq12).trans hq2.2)
          have HBE := Lib.hid (((HP4.out.bel.setCell (p := ⟨b1, 0, none⟩) hq1.1 (.slice sx.ta sx.tos.length sx.tc)).setCell (p := ⟨b1, 1, none⟩) hq1.1 (.slice sx.fa sx.fin.length sx.fc)))
          refine wpAnyZ_ready (i := 8) (by kernel_rfl) rfl (fun K hK => ?_)
          go_simp
          obtain ⟨uM, huM⟩ : ∃ v, (u4.setCell ⟨b1, 0, none⟩ (.slice sx.ta sx.tos.length sx.tc)).setCell ⟨b1, 1, none⟩ (.slice sx.fa sx.fin.length sx.fc) = v := ⟨_, rfl⟩
          rw [huM] at hg2 HBE
          (try rw [huM])
          have c20 : uM.cell? ⟨b2, 0, none⟩ = some (.slice none 0 0) := by simp [World.cell?, hg2]
          have c21 : uM.cell? ⟨b2, 1, none⟩ = some (.slice none 0 0) := by simp [World.cell?, hg2]
          have f20 : uM.frozen? ⟨b2, 0, none⟩ = false := by simp [World.frozen?, hg2]
          have f21 : uM.frozen? ⟨b2, 1, none⟩ = false := by simp [World.frozen?, hg2]
          refine hK.out _ _ ((HXF.out _ HBE.out)) (fun hHeld => ?_)
          clear hK K
          (try simp only [Act.put, List.getElem_toArray, List.getElem_cons_succ, List.getElem_cons_zero, List.setIfInBounds_toArray, List.set_cons_zero, List.set_cons_succ])
          clear c10 c11 f10 f11
          refine wpAnyZ_last (i := 9) rfl (by kernel_rfl) (by kernel_rfl) rfl (fun K hK => ?_)
          go_simp
          refine hK.out _ _ ?_
          clear hHeld hK K c20 c21 f20 f21
          (try simp only [Act.put, List.getElem_toArray, List.getElem_cons_succ, List.getElem_cons_zero, List.setIfInBounds_toArray, List.set_cons_zero, List.set_cons_succ])
          go_wp2_with fail
          go_meet
          exact ⟨b1, b2, sx, sy, rfl, rfl, HSX, HSY, Lib.hid (HPUT.out _ (by rw [← huM])).1⟩
        · go_simp
          have HP3 := Lib.hid (HP2.out.alloc_b)
          obtain ⟨u3, hu3⟩ : ∃ z, u2.alloc (.cells #[.slice none 0 0, .slice none 0 0] 50) = z := ⟨_, rfl⟩
          rw [hu3] at HP3 ⊢
          clear hu3
          refine hK.out _ _ ((HXF.out _ HP3.out.bel)) (fun hHeld => ?_)
          clear hK K
          (try simp only [Act.put, List.getElem_toArray, List.getElem_cons_succ, List.getElem_cons_zero, List.setIfInBounds_toArray, List.set_cons_zero, List.set_cons_succ])
          refine wpAnyZ_ready (i := 5) (by kernel_rfl) rfl (fun K hK => ?_)
          go_simp
          refine (sided_st (St.here (Lib.hid (HK2.out.step HP3.out.bel))) y (fun W h => HY.out W (HF2.out W h.2).2.2) HYOK HYONE (fun W h => h.1) hll cB ny HNY.out).mono ?_
          rintro e u4 ⟨sy, HSY, rfl, HKY, HDY⟩
          have HP4 := Lib.hid (HP3.out.call_y HKY.out.2 HDY.out)
          clear HKY HDY
          refine hK.out _ _ ((HXF.out _ HP4.out.bel)) (fun hHeld => ?_)
          clear hK K
          (try simp only [Act.put, List.getElem_toArray, List.getElem_cons_succ, List.getElem_cons_zero, List.setIfInBounds_toArray, List.set_cons_zero, List.set_cons_succ])
          obtain ⟨b1, hb1⟩ : ∃ z, u1.heap.size = z := ⟨_, rfl⟩
          obtain ⟨b2, hb2⟩ : ∃ z, u2.heap.size = z := ⟨_, rfl⟩
          rw [hb1, hb2] at HP4
          (try rw [hb1])
          (try rw [hb2])
          clear hb1 hb2
          have hq1 := HP4.out.a b1 rfl
          have hq2 := HP4.out.b b2 rfl
          have hq12 : b2 ≠ b1 := fun e => HP4.out.ne b1 rfl (by rw [e])
          have c10 : u4.cell? ⟨b1, 0, none⟩ = some (.slice none 0 0) := by simp [World.cell?, hq1.2]
          have c11 : u4.cell? ⟨b1, 1, none⟩ = some (.slice none 0 0) := by simp [World.cell?, hq1.2]
          have f10 : u4.frozen? ⟨b1, 0, none⟩ = false := by simp [World.frozen?, hq1.2]
          have f11 : u4.frozen? ⟨b1, 1, none⟩ = false := by simp [World.frozen?, hq1.2]
          have HPUT := Lib.hid (fun uE hE => HP4.out.put rfl HK2.out uE (.slice sx.ta sx.tos.length sx.tc) (.slice sx.fa sx.fin.length sx.fc) (.slice sy.ta sy.tos.length sy.tc) (.slice sy.fa sy.fin.length sy.fc) hE rfl rfl)
          have hg2 : ((u4.setCell ⟨b1, 0, none⟩ (.slice sx.ta sx.tos.length sx.tc)).setCell ⟨b1, 1, none⟩ (.slice sx.fa sx.fin.length sx.fc)).heap[b2]? = some (.cells #[.slice none 0 0, .slice none 0 0] 50 (0, 0)) := (heap_setCell_other _ _ _ _ hq12).trans ((heap_setCell_other _ _ _ _ hq12).trans hq2.2)
          have HBE := Lib.hid (((HP4.out.bel.setCell (p := ⟨b1, 0, none⟩) hq1.1 (.slice sx.ta sx.tos.length sx.tc)).setCell (p := ⟨b1, 1, none⟩) hq1.1 (.slice sx.fa sx.fin.length sx.fc)))
          refine wpAnyZ_ready (i := 8) (by kernel_rfl) rfl (fun K hK => ?_)
          go_simp
          obtain ⟨uM, huM⟩ : ∃ v, (u4.setCell ⟨b1, 0, none⟩ (.slice sx.ta sx.tos.length sx.tc)).setCell ⟨b1, 1, none⟩ (.slice sx.fa sx.fin.length sx.fc) = v := ⟨_, rfl⟩
          rw [huM] at hg2 HBE
          (try rw [huM])
          have c20 : uM.cell? ⟨b2, 0, none⟩ = some (.slice none 0 0) := by simp [World.cell?, hg2]
          have c21 : uM.cell? ⟨b2, 1, none⟩ = some (.slice none 0 0) := by simp [World.cell?, hg2]
          have f20 : uM.frozen? ⟨b2, 0, none⟩ = false := by simp [World.frozen?, hg2]
          have f21 : uM.frozen? ⟨b2, 1, none⟩ = false := by simp [World.frozen?, hg2]
          refine hK.out _ _ ((HXF.out _ HBE.out)) (fun hHeld => ?_)
          clear hK K
          (try simp only [Act.put, List.getElem_toArray, List.getElem_cons_succ, List.getElem_cons_zero, List.setIfInBounds_toArray, List.set_cons_zero, List.set_cons_succ])
          clear c10 c11 f10 f11
          refine wpAnyZ_last (i := 9) rfl (by kernel_rfl) (by kernel_rfl) rfl (fun K hK => ?_)
          go_simp
          refine hK.out _ _ ?_
          clear hHeld hK K c20 c21 f20 f21
          (try simp only [Act.put, List.getElem_toArray, List.getElem_cons_succ, List.getElem_cons_zero, List.setIfInBounds_toArray, List.set_cons_zero, List.set_cons_succ])
          go_wp2_with fail
          go_meet
          exact ⟨b1, b2, sx, sy, rfl, rfl, HSX, HSY, Lib.hid (HPUT.out _ (by rw [← huM])).1⟩
      · go_simp
        have HP2 := Lib.hid (HP1.out.alloc_b)
        obtain ⟨u2, hu2⟩ : ∃ z, u1.alloc (.cells #[.slice none 0 0, .slice none 0 0] 50) = z := ⟨_, rfl⟩
        rw [hu2] at HP2 ⊢
        clear hu2
        refine hK.out _ _ ((HXF.out _ HP2.out.bel)) (fun hHeld => ?_)
        clear hK K
        (try simp only [Act.put, List.getElem_toArray, List.getElem_cons_succ, List.getElem_cons_zero, List.setIfInBounds_toArray, List.set_cons_zero, List.set_cons_succ])
        refine wpAnyZ_ready2 (i := 5) (j := 6) (by kernel_rfl) rfl rfl (fun K hK => ?_) (fun K hK => ?_)
        · go_simp
          refine (sided_st (St.here (Lib.hid (HK2.out.step HP2.out.bel))) y (fun W h => HY.out W (HF2.out W h.2).2.2) HYOK HYONE (fun W h => h.1) hll cB ny HNY.out).mono ?_
          rintro e u3 ⟨sy, HSY, rfl, HKY, HDY⟩
          have HP3 := Lib.hid (HP2.out.call_y HKY.out.2 HDY.out)
          clear HKY HDY
          refine hK.out _ _ ((HXF.out _ HP3.out.bel)) (fun hHeld => ?_)
          clear hK K
          (try simp only [Act.put, List.getElem_toArray, List.getElem_cons_succ, List.getElem_cons_zero, List.setIfInBounds_toArray, List.set_cons_zero, List.set_cons_succ])
          refine wpAnyZ_ready (i := 6) (by kernel_rfl) rfl (fun K hK => ?_)
          go_simp
          have HP4 := Lib.hid (HP3.out.alloc_a)
          obtain ⟨u4, hu4⟩ : ∃ z, u3.alloc (.cells #[.slice none 0 0, .slice none 0 0] 50) = z := ⟨_, rfl⟩
          rw [hu4] at HP4 ⊢
          clear hu4
          refine hK.out _ _ ((HXF.out _ HP4.out.bel)) (fun hHeld => ?_)
          clear hK K
          (try simp only [Act.put, List.getElem_toArray, List.getElem_cons_succ, List.getElem_cons_zero, List.setIfInBounds_toArray, List.set_cons_zero, List.set_cons_succ])
          obtain ⟨b1, hb1⟩ : ∃ z, u3.heap.size = z := ⟨_, rfl⟩
          obtain ⟨b2, hb2⟩ : ∃ z, u1.heap.size = z := ⟨_, rfl⟩
          rw [hb1, hb2] at HP4
          (try rw [hb1])
          (try rw [hb2])
          clear hb1 hb2
          have hq1 := HP4.out.a b1 rfl
          have hq2 := HP4.out.b b2 rfl
          have hq12 : b2 ≠ b1 := fun e => HP4.out.ne b1 rfl (by rw [e])
          have c10 : u4.cell? ⟨b1, 0, none⟩ = some (.slice none 0 0) := by simp [World.cell?, hq1.2]
          have c11 : u4.cell? ⟨b1, 1, none⟩ = some (.slice none 0 0) := by simp [World.cell?, hq1.2]
          have f10 : u4.frozen? ⟨b1, 0, none⟩ = false := by simp [World.frozen?, hq1.2]
          have f11 : u4.frozen? ⟨b1, 1, none⟩ = false := by simp [World.frozen?, hq1.2]
          have HPUT := Lib.hid (fun uE hE => HP4.out.put rfl HK2.out uE (.slice sx.ta sx.tos.length sx.tc) (.slice sx.fa sx.fin.length sx.fc) (.slice sy.ta sy.tos.length sy.tc) (.slice sy.fa sy.fin.length sy.fc) hE rfl rfl)
          have hg2 : ((u4.setCell ⟨b1, 0, none⟩ (.slice sx.ta sx.tos.length sx.tc)).setCell ⟨b1, 1, none⟩ (.slice sx.fa sx.fin.length sx.fc)).heap[b2]? = some (.cells #[.slice none 0 0, .slice none 0 0] 50 (0, 0)) := (heap_setCell_other _ _ _ _ hq12).trans ((heap_setCell_other _ _ _ _ hq12).trans hq2.2)
          have HBE := Lib.hid (((HP4.out.bel.setCell (p := ⟨b1, 0, none⟩) hq1.1 (.slice sx.ta sx.tos.length sx.tc)).setCell (p := ⟨b1, 1, none⟩) hq1.1 (.slice sx.fa sx.fin.length sx.fc)))
          refine wpAnyZ_ready (i := 8) (by kernel_rfl) rfl (fun K hK => ?_)
          go_simp
          obtain ⟨uM, huM⟩ : ∃ v, (u4.setCell ⟨b1, 0, none⟩ (.slice sx.ta sx.tos.length sx.tc)).setCell ⟨b1, 1, none⟩ (.slice sx.fa sx.fin.length sx.fc) = v := ⟨_, rfl⟩
          rw [huM] at hg2 HBE
          (try rw [huM])
          have c20 : uM.cell? ⟨b2, 0, none⟩ = some (.slice none 0 0) := by simp [World.cell?, hg2]
          have c21 : uM.cell? ⟨b2, 1, none⟩ = some (.slice none 0 0) := by simp [World.cell?, hg2]
          have f20 : uM.frozen? ⟨b2, 0, none⟩ = false := by simp [World.frozen?, hg2]
          have f21 : uM.frozen? ⟨b2, 1, none⟩ = false := by simp [World.frozen?, hg2]
          refine hK.out _ _ ((HXF.out _ HBE.out)) (fun hHeld => ?_)
          clear hK K
          (try simp only [Act.put, List.getElem_toArray, List.getElem_cons_succ, List.getElem_cons_zero, List.setIfInBounds_toArray, List.set_cons_zero, List.set_cons_succ])
          clear c10 c11 f10 f11
          refine wpAnyZ_last (i := 9) rfl (by kernel_rfl) (by kernel_rfl) rfl (fun K hK => ?_)
          go_simp
          refine hK.out _ _ ?_
          clear hHeld hK K c20 c21 f20 f21
          (try simp only [Act.put, List.getElem_toArray, List.getElem_cons_succ, List.getElem_cons_zero, List.setIfInBounds_toArray, List.set_cons_zero, List.set_cons_succ])
          go_wp2_with fail
          go_meet
          exact ⟨b1, b2, sx, sy, rfl, rfl, HSX, HSY, Lib.hid (HPUT.out _ (by rw [← huM])).1⟩
        · go_simp
          have HP3 := Lib.hid (HP2.out.alloc_a)
          obtain ⟨u3, hu3⟩ : ∃ z, u2.alloc (.cells #[.slice none 0 0, .slice none 0 0] 50) = z := ⟨_, rfl⟩
          rw [hu3] at HP3 ⊢
          clear hu3
          refine hK.out _ _ ((HXF.out _ HP3.out.bel)) (fun hHeld => ?_)
          clear hK K
          (try simp only [Act.put, List.getElem_toArray, List.getElem_cons_succ, List.getElem_cons_zero, List.setIfInBounds_toArray, List.set_cons_zero, List.set_cons_succ])
          refine wpAnyZ_ready (i := 5) (by kernel_rfl) rfl (fun K hK => ?_)
          go_simp
          refine (sided_st (St.here (Lib.hid (HK2.out.step HP3.out.bel))) y (fun W h => HY.out W (HF2.out W h.2).2.2) HYOK HYONE (fun W h => h.1) hll cB ny HNY.out).mono ?_
          rintro e u4 ⟨sy, HSY, rfl, HKY, HDY⟩
          have HP4 := Lib.hid (HP3.out.call_y HKY.out.2 HDY.out)
          clear HKY HDY
          refine hK.out _ _ ((HXF.out _ HP4.out.bel)) (fun hHeld => ?_)
          clear hK K
          (try simp only [Act.put, List.getElem_toArray, List.getElem_cons_succ, List.getElem_cons_zero, List.setIfInBounds_toArray, List.set_cons_zero, List.set_cons_succ])
          obtain ⟨b1, hb1⟩ : ∃ z, u2.heap.size = z := ⟨_, rfl⟩
          obtain ⟨b2, hb2⟩ : ∃ z, u1.heap.size = z := ⟨_, rfl⟩
          rw [hb1, hb2] at HP4
          (try rw [hb1])
          (try rw [hb2])
          clear hb1 hb2
          have hq1 := HP4.out.a b1 rfl
          have hq2 := HP4.out.b b2 rfl
          have hq12 : b2 ≠ b1 := fun e => HP4.out.ne b1 rfl (by rw [e])
          have c10 : u4.cell? ⟨b1, 0, none⟩ = some (.slice none 0 0) := by simp [World.cell?, hq1.2]
          have c11 : u4.cell? ⟨b1, 1, none⟩ = some (.slice none 0 0) := by simp [World.cell?, hq1.2]
          have f10 : u4.frozen? ⟨b1, 0, none⟩ = false := by simp [World.frozen?, hq1.2]
          have f11 : u4.frozen? ⟨b1, 1, none⟩ = false := by simp [World.frozen?, hq1.2]
          have HPUT := Lib.hid (fun uE hE => HP4.out.put rfl HK2.out uE (.slice sx.ta sx.tos.length sx.tc) (.slice sx.fa sx.fin.length sx.fc) (.slice sy.ta sy.tos.length sy.tc) (.slice sy.fa sy.fin.length sy.fc) hE rfl rfl)
          have hg2 : ((u4.setCell ⟨b1, 0, none⟩ (.slice sx.ta sx.tos.length sx.tc)).setCell ⟨b1, 1, none⟩ (.slice sx.fa sx.fin.length sx.fc)).heap[b2]? = some (.cells #[.slice none 0 0, .slice none 0 0] 50 (0, 0)) := (heap_setCell_other _ _ _ _ hq12).trans ((heap_setCell_other _ _ _ _ hq12).trans hq2.2)
          have HBE := Lib.hid (((HP4.out.bel.setCell (p := ⟨b1, 0, none⟩) hq1.1 (.slice sx.ta sx.tos.length sx.tc)).setCell (p := ⟨b1, 1, none⟩) hq1.1 (.slice sx.fa sx.fin.length sx.fc)))
          refine wpAnyZ_ready (i := 8) (by kernel_rfl) rfl (fun K hK => ?_)
          go_simp
          obtain ⟨uM, huM⟩ : ∃ v, (u4.setCell ⟨b1, 0, none⟩ (.slice sx.ta sx.tos.length sx.tc)).setCell ⟨b1, 1, none⟩ (.slice sx.fa sx.fin.length sx.fc) = v := ⟨_, rfl⟩
          rw [huM] at hg2 HBE
          (try rw [huM])
          have c20 : uM.cell? ⟨b2, 0, none⟩ = some (.slice none 0 0) := by simp [World.cell?, hg2]
          have c21 : uM.cell? ⟨b2, 1, none⟩ = some (.slice none 0 0) := by simp [World.cell?, hg2]
          have f20 : uM.frozen? ⟨b2, 0, none⟩ = false := by simp [World.frozen?, hg2]
          have f21 : uM.frozen? ⟨b2, 1, none⟩ = false := by simp [World.frozen?, hg2]
          refine hK.out _ _ ((HXF.out _ HBE.out)) (fun hHeld => ?_)
          clear hK K
          (try simp only [Act.put, List.getElem_toArray, List.getElem_cons_succ, List.getElem_cons_zero, List.setIfInBounds_toArray, List.set_cons_zero, List.set_cons_succ])
          clear c10 c11 f10 f11
          refine wpAnyZ_last (i := 9) rfl (by kernel_rfl) (by kernel_rfl) rfl (fun K hK => ?_)
          go_simp
          refine hK.out _ _ ?_
          clear hHeld hK K c20 c21 f20 f21
          (try simp only [Act.put, List.getElem_toArray, List.getElem_cons_succ, List.getElem_cons_zero, List.setIfInBounds_toArray, List.set_cons_zero, List.set_cons_succ])
          go_wp2_with fail
          go_meet
          exact ⟨b1, b2, sx, sy, rfl, rfl, HSX, HSY, Lib.hid (HPUT.out _ (by rw [← huM])).1⟩
    · go_simp
      have HP1 := Lib.hid (HP0.out.alloc_a)
      obtain ⟨u1, hu1⟩ : ∃ z, u0.alloc (.cells #[.slice none 0 0, .slice none 0 0] 50) = z := ⟨_, rfl⟩
      rw [hu1] at HP1 ⊢
      clear hu1
      refine hK.out _ _ ((HXF.out _ HP1.out.bel)) (fun hHeld => ?_)
      clear hK K
      (try simp only [Act.put, List.getElem_toArray, List.getElem_cons_succ, List.getElem_cons_zero, List.setIfInBounds_toArray, List.set_cons_zero, List.set_cons_succ])
      refine wpAnyZ_ready2 (i := 2) (j := 7) (by kernel_rfl) rfl rfl (fun K hK => ?_) (fun K hK => ?_)
      · go_simp
        refine (sided_st (St.here (Lib.hid (HK2.out.step HP1.out.bel))) x (fun W h => HX.out W (HF2.out W h.2).2.2) HXOK HXONE (fun W h => h.1) hll cB nx HNX.out).mono ?_
        rintro e u2 ⟨sx, HSX, rfl, HKX, HDX⟩
        have HP2 := Lib.hid (HP1.out.call_x HKX.out.2 HDX.out)
        clear HKX HDX
        refine hK.out _ _ ((HXF.out _ HP2.out.bel)) (fun hHeld => ?_)
        clear hK K
        (try simp only [Act.put, List.getElem_toArray, List.getElem_cons_succ, List.getElem_cons_zero, List.setIfInBounds_toArray, List.set_cons_zero, List.set_cons_succ])
        refine wpAnyZ_ready2 (i := 5) (j := 7) (by kernel_rfl) rfl rfl (fun K hK => ?_) (fun K hK => ?_)
        · go_simp
          refine (sided_st (St.here (Lib.hid (HK2.out.step HP2.out.bel))) y (fun W h => HY.out W (HF2.out W h.2).2.2) HYOK HYONE (fun W h => h.1) hll cB ny HNY.out).mono ?_
          rintro e u3 ⟨sy, HSY, rfl, HKY, HDY⟩
          have HP3 := Lib.hid (HP2.out.call_y HKY.out.2 HDY.out)
          clear HKY HDY
          refine hK.out _ _ ((HXF.out _ HP3.out.bel)) (fun hHeld => ?_)
          clear hK K
          (try simp only [Act.put, List.getElem_toArray, List.getElem_cons_succ, List.getElem_cons_zero, List.setIfInBounds_toArray, List.set_cons_zero, List.set_cons_succ])
          refine wpAnyZ_ready (i := 7) (by kernel_rfl) rfl (fun K hK => ?_)
          go_simp
          have HP4 := Lib.hid (HP3.out.alloc_b)
          obtain ⟨u4, hu4⟩ : ∃ z, u3.alloc (.cells #[.slice none 0 0, .slice none 0 0] 50) = z := ⟨_, rfl⟩
          rw [hu4] at HP4 ⊢
          clear hu4
          refine hK.out _ _ ((HXF.out _ HP4.out.bel)) (fun hHeld => ?_)
          clear hK K
          (try simp only [Act.put, List.getElem_toArray, List.getElem_cons_succ, List.getElem_cons_zero, List.setIfInBounds_toArray, List.set_cons_zero, List.set_cons_succ])
          obtain ⟨b1, hb1⟩ : ∃ z, u0.heap.size = z := ⟨_, rfl⟩
          obtain ⟨b2, hb2⟩ : ∃ z, u3.heap.size = z := ⟨_, rfl⟩
          rw [hb1, hb2] at HP4
          (try rw [hb1])
          (try rw [hb2])
          clear hb1 hb2
          have hq1 := HP4.out.a b1 rfl
          have hq2 := HP4.out.b b2 rfl
          have hq12 : b2 ≠ b1 := fun e => HP4.out.ne b1 rfl (by rw [e])
          have c10 : u4.cell? ⟨b1, 0, none⟩ = some (.slice none 0 0) := by simp [World.cell?, hq1.2]
          have c11 : u4.cell? ⟨b1, 1, none⟩ = some (.slice none 0 0) := by simp [World.cell?, hq1.2]
          have f10 : u4.frozen? ⟨b1, 0, none⟩ = false := by simp [World.frozen?, hq1.2]
          have f11 : u4.frozen? ⟨b1, 1, none⟩ = false := by simp [World.frozen?, hq1.2]
          have HPUT := Lib.hid (fun uE hE => HP4.out.put rfl HK2.out uE (.slice sx.ta sx.tos.length sx.tc) (.slice sx.fa sx.fin.length sx.fc) (.slice sy.ta sy.tos.length sy.tc) (.slice sy.fa sy.fin.length sy.fc) hE rfl rfl)
          have hg2 : ((u4.setCell ⟨b1, 0, none⟩ (.slice sx.ta sx.tos.length sx.tc)).setCell ⟨b1, 1, none⟩ (.slice sx.fa sx.fin.length sx.fc)).heap[b2]? = some (.cells #[.slice none 0 0, .slice none 0 0] 50 (0, 0)) := (heap_setCell_other _ _ _ _ hq12).trans ((heap_setCell_other _ _ _ _ hq12).trans hq2.2)
          have HBE := Lib.hid (((HP4.out.bel.setCell (p := ⟨b1, 0, none⟩) hq1.1 (.slice sx.ta sx.tos.length sx.tc)).setCell (p := ⟨b1, 1, none⟩) hq1.1 (.slice sx.fa sx.fin.length sx.fc)))
          refine wpAnyZ_ready (i := 8) (by kernel_rfl) rfl (fun K hK => ?_)
          go_simp
          obtain ⟨uM, huM⟩ : ∃ v, (u4.setCell ⟨b1, 0, none⟩ (.slice sx.ta sx.tos.length sx.tc)).setCell ⟨b1, 1, none⟩ (.slice sx.fa sx.fin.length sx.fc) = v := ⟨_, rfl⟩
          rw [huM] at hg2 HBE
          (try rw [huM])
          have c20 : uM.cell? ⟨b2, 0, none⟩ = some (.slice none 0 0) := by simp [World.cell?, hg2]
          have c21 : uM.cell? ⟨b2, 1, none⟩ = some (.slice none 0 0) := by simp [World.cell?, hg2]
          have f20 : uM.frozen? ⟨b2, 0, none⟩ = false := by simp [World.frozen?, hg2]
          have f21 : uM.frozen? ⟨b2, 1, none⟩ = false := by simp [World.frozen?, hg2]
          refine hK.out _ _ ((HXF.out _ HBE.out)) (fun hHeld => ?_)
          clear hK K
          (try simp only [Act.put, List.getElem_toArray, List.getElem_cons_succ, List.getElem_cons_zero, List.setIfInBounds_toArray, List.set_cons_zero, List.set_cons_succ])
          clear c10 c11 f10 f11
          refine wpAnyZ_last (i := 9) rfl (by kernel_rfl) (by kernel_rfl) rfl (fun K hK => ?_)
          go_simp
          refine hK.out _ _ ?_
          clear hHeld hK K c20 c21 f20 f21
          (try simp only [Act.put, List.getElem_toArray, List.getElem_cons_succ, List.getElem_cons_zero, List.setIfInBounds_toArray, List.set_cons_zero, List.set_cons_succ])
          go_wp2_with fail
          go_meet
          exact ⟨b1, b2, sx, sy, rfl, rfl, HSX, HSY, Lib.hid (HPUT.out _ (by rw [← huM])).1⟩
        · go_simp
          have HP3 := Lib.hid (HP2.out.alloc_b)
          obtain ⟨u3, hu3⟩ : ∃ z, u2.alloc (.cells #[.slice none 0 0, .slice none 0 0] 50) = z := ⟨_, rfl⟩
          rw [hu3] at HP3 ⊢
          clear hu3
          refine hK.out _ _ ((HXF.out _ HP3.out.bel)) (fun hHeld => ?_)
          clear hK K
          (try simp only [Act.put, List.getElem_toArray, List.getElem_cons_succ, List.getElem_cons_zero, List.setIfInBounds_toArray, List.set_cons_zero, List.set_cons_succ])
          refine wpAnyZ_ready (i := 5) (by kernel_rfl) rfl (fun K hK => ?_)
          go_simp
          refine (sided_st (St.here (Lib.hid (HK2.out.step HP3.out.bel))) y (fun W h => HY.out W (HF2.out W h.2).2.2) HYOK HYONE (fun W h => h.1) hll cB ny HNY.out).mono ?_
          rintro e u4 ⟨sy, HSY, rfl, HKY, HDY⟩
          have HP4 := Lib.hid (HP3.out.call_y HKY.out.2 HDY.out)
          clear HKY HDY
          refine hK.out _ _ ((HXF.out _ HP4.out.bel)) (fun hHeld => ?_)
          clear hK K
          (try simp only [Act.put, List.getElem_toArray, List.getElem_cons_succ, List.getElem_cons_zero, List.setIfInBounds_toArray, List.set_cons_zero, List.set_cons_succ])
          obtain ⟨b1, hb1⟩ : ∃ z, u0.heap.size = z := ⟨_, rfl⟩
          obtain ⟨b2, hb2⟩ : ∃ z, u2.heap.size = z := ⟨_, rfl⟩
          rw [hb1, hb2] at HP4
          (try rw [hb1])
          (try rw [hb2])
          clear hb1 hb2
          have hq1 := HP4.out.a b1 rfl
          have hq2 := HP4.out.b b2 rfl
          have hq12 : b2 ≠ b1 := fun e => HP4.out.ne b1 rfl (by rw [e])
          have c10 : u4.cell? ⟨b1, 0, none⟩ = some (.slice none 0 0) := by simp [World.cell?, hq1.2]
          have c11 : u4.cell? ⟨b1, 1, none⟩ = some (.slice none 0 0) := by simp [World.cell?, hq1.2]
          have f10 : u4.frozen? ⟨b1, 0, none⟩ = false := by simp [World.frozen?, hq1.2]
          have f11 : u4.frozen? ⟨b1, 1, none⟩ = false := by simp [World.frozen?, hq1.2]
          have HPUT := Lib.hid (fun uE hE => HP4.out.put rfl HK2.out uE (.slice sx.ta sx.tos.length sx.tc) (.slice sx.fa sx.fin.length sx.fc) (.slice sy.ta sy.tos.length sy.tc) (.slice sy.fa sy.fin.length sy.fc) hE rfl rfl)
          have hg2 : ((u4.setCell ⟨b1, 0, none⟩ (.slice sx.ta sx.tos.length sx.tc)).setCell ⟨b1, 1, none⟩ (.slice sx.fa sx.fin.length sx.fc)).heap[b2]? = some (.cells #[.slice none 0 0, .slice none 0 0] 50 (0, 0)) := (heap_setCell_other _ _ _ _ hq12).trans ((heap_setCell_other _ _ _ _ hq12).trans hq2.2)
          have HBE := Lib.hid (((HP4.out.bel.setCell (p := ⟨b1, 0, none⟩) hq1.1 (.slice sx.ta sx.tos.length sx.tc)).setCell (p := ⟨b1, 1, none⟩) hq1.1 (.slice sx.fa sx.fin.length sx.fc)))
          refine wpAnyZ_ready (i := 8) (by kernel_rfl) rfl (fun K hK => ?_)
          go_simp
          obtain ⟨uM, huM⟩ : ∃ v, (u4.setCell ⟨b1, 0, none⟩ (.slice sx.ta sx.tos.length sx.tc)).setCell ⟨b1, 1, none⟩ (.slice sx.fa sx.fin.length sx.fc) = v := ⟨_, rfl⟩
          rw [huM] at hg2 HBE
          (try rw [huM])
          have c20 : uM.cell? ⟨b2, 0, none⟩ = some (.slice none 0 0) := by simp [World.cell?, hg2]
          have c21 : uM.cell? ⟨b2, 1, none⟩ = some (.slice none 0 0) := by simp [World.cell?, hg2]
          have f20 : uM.frozen? ⟨b2, 0, none⟩ = false := by simp [World.frozen?, hg2]
          have f21 : uM.frozen? ⟨b2, 1, none⟩ = false := by simp [World.frozen?, hg2]
          refine hK.out _ _ ((HXF.out _ HBE.out)) (fun hHeld => ?_)
          clear hK K
          (try simp only [Act.put, List.getElem_toArray, List.getElem_cons_succ, List.getElem_cons_zero, List.setIfInBounds_toArray, List.set_cons_zero, List.set_cons_succ])
          clear c10 c11 f10 f11
          refine wpAnyZ_last (i := 9) rfl (by kernel_rfl) (by kernel_rfl) rfl (fun K hK => ?_)
          go_simp
          refine hK.out _ _ ?_
          clear hHeld hK K c20 c21 f20 f21
          (try simp only [Act.put, List.getElem_toArray, List.getElem_cons_succ, List.getElem_cons_zero, List.setIfInBounds_toArray, List.set_cons_zero, List.set_cons_succ])
          go_wp2_with fail
          go_meet
          exact ⟨b1, b2, sx, sy, rfl, rfl, HSX, HSY, Lib.hid (HPUT.out _ (by rw [← huM])).1⟩
      · go_simp
        have HP2 := Lib.hid (HP1.out.alloc_b)
        obtain ⟨u2, hu2⟩ : ∃ z, u1.alloc (.cells #[.slice none 0 0, .slice none 0 0] 50) = z := ⟨_, rfl⟩
        rw [hu2] at HP2 ⊢
        clear hu2
        refine hK.out _ _ ((HXF.out _ HP2.out.bel)) (fun hHeld => ?_)
        clear hK K
        (try simp only [Act.put, List.getElem_toArray, List.getElem_cons_succ, List.getElem_cons_zero, List.setIfInBounds_toArray, List.set_cons_zero, List.set_cons_succ])
        refine wpAnyZ_ready (i := 2) (by kernel_rfl) rfl (fun K hK => ?_)
        go_simp
        refine (sided_st (St.here (Lib.hid (HK2.out.step HP2.out.bel))) x (fun W h => HX.out W (HF2.out W h.2).2.2) HXOK HXONE (fun W h => h.1) hll cB nx HNX.out).mono ?_
        rintro e u3 ⟨sx, HSX, rfl, HKX, HDX⟩
        have HP3 := Lib.hid (HP2.out.call_x HKX.out.2 HDX.out)
        clear HKX HDX
        refine hK.out _ _ ((HXF.out _ HP3.out.bel)) (fun hHeld => ?_)
        clear hK K
        (try simp only [Act.put, List.getElem_toArray, List.getElem_cons_succ, List.getElem_cons_zero, List.setIfInBounds_toArray, List.set_cons_zero, List.set_cons_succ])
        refine wpAnyZ_ready (i := 5) (by kernel_rfl) rfl (fun K hK => ?_)
        go_simp
        refine (sided_st (St.here (Lib.hid (HK2.out.step HP3.out.bel))) y (fun W h => HY.out W (HF2.out W h.2).2.2) HYOK HYONE (fun W h => h.1) hll cB ny HNY.out).mono ?_
        rintro e u4 ⟨sy, HSY, rfl, HKY, HDY⟩
        have HP4 := Lib.hid (HP3.out.call_y HKY.out.2 HDY.out)
        clear HKY HDY
        refine hK.out _ _ ((HXF.out _ HP4.out.bel)) (fun hHeld => ?_)
        clear hK K
        (try simp only [Act.put, List.getElem_toArray, List.getElem_cons_succ, List.getElem_cons_zero, List.setIfInBounds_toArray, List.set_cons_zero, List.set_cons_succ])
        obtain ⟨b1, hb1⟩ : ∃ z, u0.heap.size = z := ⟨_, rfl⟩
        obtain ⟨b2, hb2⟩ : ∃ z, u1.heap.size = z := ⟨_, rfl⟩
        rw [hb1, hb2] at HP4
        (try rw [hb1])
        (try rw [hb2])
        clear hb1 hb2
        have hq1 := HP4.out.a b1 rfl
        have hq2 := HP4.out.b b2 rfl
        have hq12 : b2 ≠ b1 := fun e => HP4.out.ne b1 rfl (by rw [e])
        have c10 : u4.cell? ⟨b1, 0, none⟩ = some (.slice none 0 0) := by simp [World.cell?, hq1.2]
        have c11 : u4.cell? ⟨b1, 1, none⟩ = some (.slice none 0 0) := by simp [World.cell?, hq1.2]
        have f10 : u4.frozen? ⟨b1, 0, none⟩ = false := by simp [World.frozen?, hq1.2]
        have f11 : u4.frozen? ⟨b1, 1, none⟩ = false := by simp [World.frozen?, hq1.2]
        have HPUT := Lib.hid (fun uE hE => HP4.out.put rfl HK2.out uE (.slice sx.ta sx.tos.length sx.tc) (.slice sx.fa sx.fin.length sx.fc) (.slice sy.ta sy.tos.length sy.tc) (.slice sy.fa sy.fin.length sy.fc) hE rfl rfl)
        have hg2 : ((u4.setCell ⟨b1, 0, none⟩ (.slice sx.ta sx.tos.length sx.tc)).setCell ⟨b1, 1, none⟩ (.slice sx.fa sx.fin.length sx.fc)).heap[b2]? = some (.cells #[.slice none 0 0, .slice none 0 0] 50 (0, 0)) := (heap_setCell_other _ _ _ _ hq12).trans ((heap_setCell_other _ _ _ _ hq12).trans hq2.2)
        have HBE := Lib.hid (((HP4.out.bel.setCell (p := ⟨b1, 0, none⟩) hq1.1 (.slice sx.ta sx.tos.length sx.tc)).setCell (p := ⟨b1, 1, none⟩) hq1.1 (.slice sx.fa sx.fin.length sx.fc)))
        refine wpAnyZ_ready (i := 8) (by kernel_rfl) rfl (fun K hK => ?_)
        go_simp
        obtain ⟨uM, huM⟩ : ∃ v, (u4.setCell ⟨b1, 0, none⟩ (.slice sx.ta sx.tos.length sx.tc)).setCell ⟨b1, 1, none⟩ (.slice sx.fa sx.fin.length sx.fc) = v := ⟨_, rfl⟩
        rw [huM] at hg2 HBE
        (try rw [huM])
        have c20 : uM.cell? ⟨b2, 0, none⟩ = some (.slice none 0 0) := by simp [World.cell?, hg2]
        have c21 : uM.cell? ⟨b2, 1, none⟩ = some (.slice none 0 0) := by simp [World.cell?, hg2]
        have f20 : uM.frozen? ⟨b2, 0, none⟩ = false := by simp [World.frozen?, hg2]
        have f21 : uM.frozen? ⟨b2, 1, none⟩ = false := by simp [World.frozen?, hg2]
        refine hK.out _ _ ((HXF.out _ HBE.out)) (fun hHeld => ?_)
        clear hK K
        (try simp only [Act.put, List.getElem_toArray, List.getElem_cons_succ, List.getElem_cons_zero, List.setIfInBounds_toArray, List.set_cons_zero, List.set_cons_succ])
        clear c10 c11 f10 f11
        refine wpAnyZ_last (i := 9) rfl (by kernel_rfl) (by kernel_rfl) rfl (fun K hK => ?_)
        go_simp
        refine hK.out _ _ ?_
        clear hHeld hK K c20 c21 f20 f21
        (try simp only [Act.put, List.getElem_toArray, List.getElem_cons_succ, List.getElem_cons_zero, List.setIfInBounds_toArray, List.set_cons_zero, List.set_cons_succ])
        go_wp2_with fail
        go_meet
        exact ⟨b1, b2, sx, sy, rfl, rfl, HSX, HSY, Lib.hid (HPUT.out _ (by rw [← huM])).1⟩
    · go_simp
      have HP1 := Lib.hid (HP0.out.alloc_b)
      obtain ⟨u1, hu1⟩ : ∃ z, u0.alloc (.cells #[.slice none 0 0, .slice none 0 0] 50) = z := ⟨_, rfl⟩
      rw [hu1] at HP1 ⊢
      clear hu1
      refine hK.out _ _ ((HXF.out _ HP1.out.bel)) (fun hHeld => ?_)
      clear hK K
      (try simp only [Act.put, List.getElem_toArray, List.getElem_cons_succ, List.getElem_cons_zero, List.setIfInBounds_toArray, List.set_cons_zero, List.set_cons_succ])
      refine wpAnyZ_ready2 (i := 2) (j := 6) (by kernel_rfl) rfl rfl (fun K hK => ?_) (fun K hK => ?_)
      · go_simp
        refine (sided_st (St.here (Lib.hid (HK2.out.step HP1.out.bel))) x (fun W h => HX.out W (HF2.out W h.2).2.2) HXOK HXONE (fun W h => h.1) hll cB nx HNX.out).mono ?_
        rintro e u2 ⟨sx, HSX, rfl, HKX, HDX⟩
        have HP2 := Lib.hid (HP1.out.call_x HKX.out.2 HDX.out)
        clear HKX HDX
        refine hK.out _ _ ((HXF.out _ HP2.out.bel)) (fun hHeld => ?_)
        clear hK K
        (try simp only [Act.put, List.getElem_toArray, List.getElem_cons_succ, List.getElem_cons_zero, List.setIfInBounds_toArray, List.set_cons_zero, List.set_cons_succ])
        refine wpAnyZ_ready2 (i := 5) (j := 6) (by kernel_rfl) rfl rfl (fun K hK => ?_) (fun K hK => ?_)
        · go_simp
          refine (sided_st (St.here (Lib.hid (HK2.out.step HP2.out.bel))) y (fun W h => HY.out W (HF2.out W h.2).2.2) HYOK HYONE (fun W h => h.1) hll cB ny HNY.out).mono ?_
          rintro e u3 ⟨sy, HSY, rfl, HKY, HDY⟩
          have HP3 := Lib.hid (HP2.out.call_y HKY.out.2 HDY.out)
          clear HKY HDY
          refine hK.out _ _ ((HXF.out _ HP3.out.bel)) (fun hHeld => ?_)
          clear hK K
          (try simp only [Act.put, List.getElem_toArray, List.getElem_cons_succ, List.getElem_cons_zero, List.setIfInBounds_toArray, List.set_cons_zero, List.set_cons_succ])
          refine wpAnyZ_ready (i := 6) (by kernel_rfl) rfl (fun K hK => ?_)
          go_simp
          have HP4 := Lib.hid (HP3.out.alloc_a)
          obtain ⟨u4, hu4⟩ : ∃ z, u3.alloc (.cells #[.slice none 0 0, .slice none 0 0] 50) = z := ⟨_, rfl⟩
          rw [hu4] at HP4 ⊢
          clear hu4
          refine hK.out _ _ ((HXF.out _ HP4.out.bel)) (fun hHeld => ?_)
          clear hK K
          (try simp only [Act.put, List.getElem_toArray, List.getElem_cons_succ, List.getElem_cons_zero, List.setIfInBounds_toArray, List.set_cons_zero, List.set_cons_succ])
          obtain ⟨b1, hb1⟩ : ∃ z, u3.heap.size = z := ⟨_, rfl⟩
          obtain ⟨b2, hb2⟩ : ∃ z, u0.heap.size = z := ⟨_, rfl⟩
          rw [hb1, hb2] at HP4
          (try rw [hb1])
          (try rw [hb2])
          clear hb1 hb2
          have hq1 := HP4.out.a b1 rfl
          have hq2 := HP4.out.b b2 rfl
          have hq12 : b2 ≠ b1 := fun e => HP4.out.ne b1 rfl (by rw [e])
          have c10 : u4.cell? ⟨b1, 0, none⟩ = some (.slice none 0 0) := by simp [World.cell?, hq1.2]
          have c11 : u4.cell? ⟨b1, 1, none⟩ = some (.slice none 0 0) := by simp [World.cell?, hq1.2]
          have f10 : u4.frozen? ⟨b1, 0, none⟩ = false := by simp [World.frozen?, hq1.2]
          have f11 : u4.frozen? ⟨b1, 1, none⟩ = false := by simp [World.frozen?, hq1.2]
          have HPUT := Lib.hid (fun uE hE => HP4.out.put rfl HK2.out uE (.slice sx.ta sx.tos.length sx.tc) (.slice sx.fa sx.fin.length sx.fc) (.slice sy.ta sy.tos.length sy.tc) (.slice sy.fa sy.fin.length sy.fc) hE rfl rfl)
          have hg2 : ((u4.setCell ⟨b1, 0, none⟩ (.slice sx.ta sx.tos.length sx.tc)).setCell ⟨b1, 1, none⟩ (.slice sx.fa sx.fin.length sx.fc)).heap[b2]? = some (.cells #[.slice none 0 0, .slice none 0 0] 50 (0, 0)) := (heap_setCell_other _ _ _ _ hq12).trans ((heap_setCell_other _ _ _ _ hq12).trans hq2.2)
          have HBE := Lib.hid (((HP4.out.bel.setCell (p := ⟨b1, 0, none⟩) hq1.1 (.slice sx.ta sx.tos.length sx.tc)).setCell (p := ⟨b1, 1, none⟩) hq1.1 (.slice sx.fa sx.fin.length sx.fc)))
          refine wpAnyZ_ready (i := 8) (by kernel_rfl) rfl (fun K hK => ?_)
          go_simp
          obtain ⟨uM, huM⟩ : ∃ v, (u4.setCell ⟨b1, 0, none⟩ (.slice sx.ta sx.tos.length sx.tc)).setCell ⟨b1, 1, none⟩ (.slice sx.fa sx.fin.length sx.fc) = v := ⟨_, rfl⟩
          rw [huM] at hg2 HBE
          (try rw [huM])
          have c20 : uM.cell? ⟨b2, 0, none⟩ = some (.slice none 0 0) := by simp [World.cell?, hg2]
          have c21 : uM.cell? ⟨b2, 1, none⟩ = some (.slice none 0 0) := by simp [World.cell?, hg2]
          have f20 : uM.frozen? ⟨b2, 0, none⟩ = false := by simp [World.frozen?, hg2]
          have f21 : uM.frozen? ⟨b2, 1, none⟩ = false := by simp [World.frozen?, hg2]
          refine hK.out _ _ ((HXF.out _ HBE.out)) (fun hHeld => ?_)
          clear hK K
          (try simp only [Act.put, List.getElem_toArray, List.getElem_cons_succ, List.getElem_cons_zero, List.setIfInBounds_toArray, List.set_cons_zero, List.set_cons_succ])
          clear c10 c11 f10 f11
          refine wpAnyZ_last (i := 9) rfl (by kernel_rfl) (by kernel_rfl) rfl (fun K hK => ?_)
          go_simp
          refine hK.out _ _ ?_
          clear hHeld hK K c20 c21 f20 f21
          (try simp only [Act.put, List.getElem_toArray, List.getElem_cons_succ, List.getElem_cons_zero, List.setIfInBounds_toArray, List.set_cons_zero, List.set_cons_succ])
          go_wp2_with fail
          go_meet
          exact ⟨b1, b2, sx, sy, rfl, rfl, HSX, HSY, Lib.hid (HPUT.out _ (by rw [← huM])).1⟩
        · go_simp
          have HP3 := Lib.hid (HP2.out.alloc_a)
          obtain ⟨u3, hu3⟩ : ∃ z, u2.alloc (.cells #[.slice none 0 0, .slice none 0 0] 50) = z := ⟨_, rfl⟩
          rw [hu3] at HP3 ⊢
          clear hu3
          refine hK.out _ _ ((HXF.out _ HP3.out.bel)) (fun hHeld => ?_)
          clear hK K
          (try simp only [Act.put, List.getElem_toArray, List.getElem_cons_succ, List.getElem_cons_zero, List.setIfInBounds_toArray, List.set_cons_zero, List.set_cons_succ])
          refine wpAnyZ_ready (i := 5) (by kernel_rfl) rfl (fun K hK => ?_)
          go_simp
          refine (sided_st (St.here (Lib.hid (HK2.out.step HP3.out.bel))) y (fun W h => HY.out W (HF2.out W h.2).2.2) HYOK HYONE (fun W h => h.1) hll cB ny HNY.out).mono ?_
          rintro e u4 ⟨sy, HSY, rfl, HKY, HDY⟩
          have HP4 := Lib.hid (HP3.out.call_y HKY.out.2 HDY.out)
          clear HKY HDY
          refine hK.out _ _ ((HXF.out _ HP4.out.bel)) (fun hHeld => ?_)
          clear hK K
          (try simp only [Act.put, List.getElem_toArray, List.getElem_cons_succ, List.getElem_cons_zero, List.setIfInBounds_toArray, List.set_cons_zero, List.set_cons_succ])
          obtain ⟨b1, hb1⟩ : ∃ z, u2.heap.size = z := ⟨_, rfl⟩
          obtain ⟨b2, hb2⟩ : ∃ z, u0.heap.size = z := ⟨_, rfl⟩
          rw [hb1, hb2] at HP4
          (try rw [hb1])
          (try rw [hb2])
          clear hb1 hb2
          have hq1 := HP4.out.a b1 rfl
          have hq2 := HP4.out.b b2 rfl
          have hq12 : b2 ≠ b1 := fun e => HP4.out.ne b1 rfl (by rw [e])
          have c10 : u4.cell? ⟨b1, 0, none⟩ = some (.slice none 0 0) := by simp [World.cell?, hq1.2]
          have c11 : u4.cell? ⟨b1, 1, none⟩ = some (.slice none 0 0) := by simp [World.cell?, hq1.2]
          have f10 : u4.frozen? ⟨b1, 0, none⟩ = false := by simp [World.frozen?, hq1.2]
          have f11 : u4.frozen? ⟨b1, 1, none⟩ = false := by simp [World.frozen?, hq1.2]
          have HPUT := Lib.hid (fun uE hE => HP4.out.put rfl HK2.out uE (.slice sx.ta sx.tos.length sx.tc) (.slice sx.fa sx.fin.length sx.fc) (.slice sy.ta sy.tos.length sy.tc) (.slice sy.fa sy.fin.length sy.fc) hE rfl rfl)
          have hg2 : ((u4.setCell ⟨b1, 0, none⟩ (.slice sx.ta sx.tos.length sx.tc)).setCell ⟨b1, 1, none⟩ (.slice sx.fa sx.fin.length sx.fc)).heap[b2]? = some (.cells #[.slice none 0 0, .slice none 0 0] 50 (0, 0)) := (heap_setCell_other _ _ _ _ hq12).trans ((heap_setCell_other _ _ _ _ hq12).trans hq2.2)
          have HBE := Lib.hid (((HP4.out.bel.setCell (p := ⟨b1, 0, none⟩) hq1.1 (.slice sx.ta sx.tos.length sx.tc)).setCell (p := ⟨b1, 1, none⟩) hq1.1 (.slice sx.fa sx.fin.length sx.fc)))
          refine wpAnyZ_ready (i := 8) (by kernel_rfl) rfl (fun K hK => ?_)
          go_simp
          obtain ⟨uM, huM⟩ : ∃ v, (u4.setCell ⟨b1, 0, none⟩ (.slice sx.ta sx.tos.length sx.tc)).setCell ⟨b1, 1, none⟩ (.slice sx.fa sx.fin.length sx.fc) = v := ⟨_, rfl⟩
          rw [huM] at hg2 HBE
          (try rw [huM])
          have c20 : uM.cell? ⟨b2, 0, none⟩ = some (.slice none 0 0) := by simp [World.cell?, hg2]
          have c21 : uM.cell? ⟨b2, 1, none⟩ = some (.slice none 0 0) := by simp [World.cell?, hg2]
          have f20 : uM.frozen? ⟨b2, 0, none⟩ = false := by simp [World.frozen?, hg2]
          have f21 : uM.frozen? ⟨b2, 1, none⟩ = false := by simp [World.frozen?, hg2]
          refine hK.out _ _ ((HXF.out _ HBE.out)) (fun hHeld => ?_)
          clear hK K
          (try simp only [Act.put, List.getElem_toArray, List.getElem_cons_succ, List.getElem_cons_zero, List.setIfInBounds_toArray, List.set_cons_zero, List.set_cons_succ])
          clear c10 c11 f10 f11
          refine wpAnyZ_last (i := 9) rfl (by kernel_rfl) (by kernel_rfl) rfl (fun K hK => ?_)
          go_simp
          refine hK.out _ _ ?_
          clear hHeld hK K c20 c21 f20 f21
          (try simp only [Act.put, List.getElem_toArray, List.getElem_cons_succ, List.getElem_cons_zero, List.setIfInBounds_toArray, List.set_cons_zero, List.set_cons_succ])
          go_wp2_with fail
          go_meet
          exact ⟨b1, b2, sx, sy, rfl, rfl, HSX, HSY, Lib.hid (HPUT.out _ (by rw [← huM])).1⟩
      · go_simp
        have HP2 := Lib.hid (HP1.out.alloc_a)
        obtain ⟨u2, hu2⟩ : ∃ z, u1.alloc (.cells #[.slice none 0 0, .slice none 0 0] 50) = z := ⟨_, rfl⟩
        rw [hu2] at HP2 ⊢
        clear hu2
        refine hK.out _ _ ((HXF.out _ HP2.out.bel)) (fun hHeld => ?_)
        clear hK K
        (try simp only [Act.put, List.getElem_toArray, List.getElem_cons_succ, List.getElem_cons_zero, List.setIfInBounds_toArray, List.set_cons_zero, List.set_cons_succ])
        refine wpAnyZ_ready (i := 2) (by kernel_rfl) rfl (fun K hK => ?_)
        go_simp
        refine (sided_st (St.here (Lib.hid (HK2.out.step HP2.out.bel))) x (fun W h => HX.out W (HF2.out W h.2).2.2) HXOK HXONE (fun W h => h.1) hll cB nx HNX.out).mono ?_
        rintro e u3 ⟨sx, HSX, rfl, HKX, HDX⟩
        have HP3 := Lib.hid (HP2.out.call_x HKX.out.2 HDX.out)
        clear HKX HDX
        refine hK.out _ _ ((HXF.out _ HP3.out.bel)) (fun hHeld => ?_)
        clear hK K
        (try simp only [Act.put, List.getElem_toArray, List.getElem_cons_succ, List.getElem_cons_zero, List.setIfInBounds_toArray, List.set_cons_zero, List.set_cons_succ])
        refine wpAnyZ_ready (i := 5) (by kernel_rfl) rfl (fun K hK => ?_)
        go_simp
        refine (sided_st (St.here (Lib.hid (HK2.out.step HP3.out.bel))) y (fun W h => HY.out W (HF2.out W h.2).2.2) HYOK HYONE (fun W h => h.1) hll cB ny HNY.out).mono ?_
        rintro e u4 ⟨sy, HSY, rfl, HKY, HDY⟩
        have HP4 := Lib.hid (HP3.out.call_y HKY.out.2 HDY.out)
        clear HKY HDY
        refine hK.out _ _ ((HXF.out _ HP4.out.bel)) (fun hHeld => ?_)
        clear hK K
        (try simp only [Act.put, List.getElem_toArray, List.getElem_cons_succ, List.getElem_cons_zero, List.setIfInBounds_toArray, List.set_cons_zero, List.set_cons_succ])
        obtain ⟨b1, hb1⟩ : ∃ z, u1.heap.size = z := ⟨_, rfl⟩
        obtain ⟨b2, hb2⟩ : ∃ z, u0.heap.size = z := ⟨_, rfl⟩
        rw [hb1, hb2] at HP4
        (try rw [hb1])
        (try rw [hb2])
        clear hb1 hb2
        have hq1 := HP4.out.a b1 rfl
        have hq2 := HP4.out.b b2 rfl
        have hq12 : b2 ≠ b1 := fun e => HP4.out.ne b1 rfl (by rw [e])
        have c10 : u4.cell? ⟨b1, 0, none⟩ = some (.slice none 0 0) := by simp [World.cell?, hq1.2]
        have c11 : u4.cell? ⟨b1, 1, none⟩ = some (.slice none 0 0) := by simp [World.cell?, hq1.2]
        have f10 : u4.frozen? ⟨b1, 0, none⟩ = false := by simp [World.frozen?, hq1.2]
        have f11 : u4.frozen? ⟨b1, 1, none⟩ = false := by simp [World.frozen?, hq1.2]
        have HPUT := Lib.hid (fun uE hE => HP4.out.put rfl HK2.out uE (.slice sx.ta sx.tos.length sx.tc) (.slice sx.fa sx.fin.length sx.fc) (.slice sy.ta sy.tos.length sy.tc) (.slice sy.fa sy.fin.length sy.fc) hE rfl rfl)
        have hg2 : ((u4.setCell ⟨b1, 0, none⟩ (.slice sx.ta sx.tos.length sx.tc)).setCell ⟨b1, 1, none⟩ (.slice sx.fa sx.fin.length sx.fc)).heap[b2]? = some (.cells #[.slice none 0 0, .slice none 0 0] 50 (0, 0)) := (heap_setCell_other _ _ _ _ hq12).trans ((heap_setCell_other _ _ _ _ hq12).trans hq2.2)
        have HBE := Lib.hid (((HP4.out.bel.setCell (p := ⟨b1, 0, none⟩) hq1.1 (.slice sx.ta sx.tos.length sx.tc)).setCell (p := ⟨b1, 1, none⟩) hq1.1 (.slice sx.fa sx.fin.length sx.fc)))
        refine wpAnyZ_ready (i := 8) (by kernel_rfl) rfl (fun K hK => ?_)
        go_simp
        obtain ⟨uM, huM⟩ : ∃ v, (u4.setCell ⟨b1, 0, none⟩ (.slice sx.ta sx.tos.length sx.tc)).setCell ⟨b1, 1, none⟩ (.slice sx.fa sx.fin.length sx.fc) = v := ⟨_, rfl⟩
        rw [huM] at hg2 HBE
        (try rw [huM])
        have c20 : uM.cell? ⟨b2, 0, none⟩ = some (.slice none 0 0) := by simp [World.cell?, hg2]
        have c21 : uM.cell? ⟨b2, 1, none⟩ = some (.slice none 0 0) := by simp [World.cell?, hg2]
        have f20 : uM.frozen? ⟨b2, 0, none⟩ = false := by simp [World.frozen?, hg2]
        have f21 : uM.frozen? ⟨b2, 1, none⟩ = false := by simp [World.frozen?, hg2]
        refine hK.out _ _ ((HXF.out _ HBE.out)) (fun hHeld => ?_)
        clear hK K
        (try simp only [Act.put, List.getElem_toArray, List.getElem_cons_succ, List.getElem_cons_zero, List.setIfInBounds_toArray, List.set_cons_zero, List.set_cons_succ])
        clear c10 c11 f10 f11
        refine wpAnyZ_last (i := 9) rfl (by kernel_rfl) (by kernel_rfl) rfl (fun K hK => ?_)
        go_simp
        refine hK.out _ _ ?_
        clear hHeld hK K c20 c21 f20 f21
        (try simp only [Act.put, List.getElem_toArray, List.getElem_cons_succ, List.getElem_cons_zero, List.setIfInBounds_toArray, List.set_cons_zero, List.set_cons_succ])
        go_wp2_with fail
        go_meet
        exact ⟨b1, b2, sx, sy, rfl, rfl, HSX, HSY, Lib.hid (HPUT.out _ (by rw [← huM])).1⟩
  case rest =>
  obtain ⟨b1, b2, sx, sy, rfl, rfl, HSX, HSY, HKS⟩ := hcut
  obtain ⟨wq, hwq⟩ : ∃ z, z = wc := ⟨_, rfl⟩
  subst hwq
  have HOX : Hid (SideOk sx) := Lib.hid (said_ok HSX.out HXOK.out HNX.out hnx1 hll)
  have HOY : Hid (SideOk sy) := Lib.hid (said_ok HSY.out HYOK.out HNY.out hny1 hll)
  have hfx : sx.fin.length = nx := by rw [HSX.out.2, setsB_length, List.length_replicate]
  have hfy : sy.fin.length = ny := by rw [HSY.out.2, setsB_length, List.length_replicate]
  have HFX := Lib.hid hfx
  have HFY := Lib.hid hfy
  have HMX : Hid (sx.tos.length = ls.length) := Lib.hid (by have := congrArg List.length HSX.out.1; simpa using this)
  have HMY : Hid (sy.tos.length = ls.length) := Lib.hid (by have := congrArg List.length HSY.out.1; simpa using this)
  have hqx2 : qx < sx.fin.length := by omega
  have hqy2 : qy < sy.fin.length := by omega
  have HXS : Hid ((List.replicate sx.fin.length false).set qx true = firstP (toDS x ls nx)) := Lib.hid (by
    have h := firstI_eq (d := x) (ls := ls) (n := nx) (by have := HQX.out; omega) (by have := HQX.out; omega)
    rw [HFX.out, ← h, HQX.out, Int.toNat_natCast])
  have HYS : Hid ((List.replicate sy.fin.length false).set qy true = firstP (toDS y ls ny)) := Lib.hid (by
    have h := firstI_eq (d := y) (ls := ls) (n := ny) (by have := HQY.out; omega) (by have := HQY.out; omega)
    rw [HFY.out, ← h, HQY.out, Int.toNat_natCast])
  clear hfx hfy
  have HSC : Hid (∀ V, Below wq.heap.size wq V → V.cell? ⟨b1, 0, none⟩ = some (.slice sx.ta sx.tos.length sx.tc) ∧ V.cell? ⟨b1, 1, none⟩ = some (.slice sx.fa sx.fin.length sx.fc) ∧ V.cell? ⟨b2, 0, none⟩ = some (.slice sy.ta sy.tos.length sy.tc) ∧ V.cell? ⟨b2, 1, none⟩ = some (.slice sy.fa sy.fin.length sy.fc)) := Lib.hid fun V hV =>
    let h := HKS.out.1 V hV
    ⟨h.1 0 _ rfl, h.1 1 _ rfl, h.2.1 0 _ rfl, h.2.1 1 _ rfl⟩
  have HS6 : Hid (∀ V, Below wq.heap.size wq V → (V.cell? ⟨b1, 0, none⟩ = some (.slice sx.ta sx.tos.length sx.tc) ∧ V.cell? ⟨b1, 1, none⟩ = some (.slice sx.fa sx.fin.length sx.fc) ∧ V.cell? ⟨b2, 0, none⟩ = some (.slice sy.ta sy.tos.length sy.tc) ∧ V.cell? ⟨b2, 1, none⟩ = some (.slice sy.fa sy.fin.length sy.fc)) ∧ V.cell? ⟨w.heap.size, 3, none⟩ = some (.int .i64 (qx : Int)) ∧ V.cell? ⟨w.heap.size + 1, 3, none⟩ = some (.int .i64 (qy : Int))) := Lib.hid fun V hV =>
    ⟨HSC.out V hV, by have h := (HF2.out _ (HKS.out.1 V hV).2.2.2.2.2).2.1 3 _ rfl; rw [HQX.out] at h; exact h, by have h := (HF2.out _ (HKS.out.1 V hV).2.2.2.2.2).1 3 _ rfl; rw [HQY.out] at h; exact h⟩
  go_upto_region 6 with fail
  refine wp_region_Z 10 (by kernel_rfl) (fun V => (V.cell? ⟨b1, 0, none⟩ = some (.slice sx.ta sx.tos.length sx.tc) ∧ V.cell? ⟨b1, 1, none⟩ = some (.slice sx.fa sx.fin.length sx.fc) ∧ V.cell? ⟨b2, 0, none⟩ = some (.slice sy.ta sy.tos.length sy.tc) ∧ V.cell? ⟨b2, 1, none⟩ = some (.slice sy.fa sy.fin.length sy.fc)) ∧ V.cell? ⟨w.heap.size, 3, none⟩ = some (.int .i64 (qx : Int)) ∧ V.cell? ⟨w.heap.size + 1, 3, none⟩ = some (.int .i64 (qy : Int))) (HS6.out _ (Below.refl _ _).drew) (fun hHeld => ?_)
  have HB0 : Hid (Below wq.heap.size wq wq.drew) := Lib.hid (Below.refl _ _).drew
  obtain ⟨v0, hv0⟩ : ∃ z, wq.drew = z := ⟨_, rfl⟩
  rw [hv0] at hHeld HB0 ⊢
  clear hv0
  refine wpAnyZ_take (i := 0) (v := ?_) rfl (by kernel_rfl) (by kernel_rfl) (by kernel_rfl) (by kernel_rfl) (fun _ _ _ h => h) (Or.inl ⟨by first | kernel_rfl | rfl, ?_⟩) (by assumption) ?_
  rotate_left
  · intro w hSw; (try dsimp only at hSw); go_simp; (try with_reducible rfl)
  (try simp only [Act.put, List.getElem_toArray, List.getElem_cons_succ, List.getElem_cons_zero, List.setIfInBounds_toArray, List.set_cons_zero, List.set_cons_succ])
  refine wpAnyZ_take (i := 1) (v := ?_) rfl (by kernel_rfl) (by kernel_rfl) (by kernel_rfl) (by kernel_rfl) (fun _ _ _ h => h) (Or.inl ⟨by first | kernel_rfl | rfl, ?_⟩) (by assumption) ?_
  rotate_left
  · intro w hSw; (try dsimp only at hSw); go_simp; (try with_reducible rfl)
  (try simp only [Act.put, List.getElem_toArray, List.getElem_cons_succ, List.getElem_cons_zero, List.setIfInBounds_toArray, List.set_cons_zero, List.set_cons_succ])
  refine wpAnyZ_take (i := 2) (v := ?_) rfl (by kernel_rfl) (by kernel_rfl) (by kernel_rfl) (by kernel_rfl) (fun _ _ _ h => h) (Or.inl ⟨by first | kernel_rfl | rfl, ?_⟩) (by assumption) ?_
  rotate_left
  · intro w hSw; (try dsimp only at hSw); go_simp; (try with_reducible rfl)
  (try simp only [Act.put, List.getElem_toArray, List.getElem_cons_succ, List.getElem_cons_zero, List.setIfInBounds_toArray, List.set_cons_zero, List.set_cons_succ])
  refine wpAnyZ_take (i := 4) (v := ?_) rfl (by kernel_rfl) (by kernel_rfl) (by kernel_rfl) (by kernel_rfl) (fun _ _ _ h => h) (Or.inl ⟨by first | kernel_rfl | rfl, ?_⟩) (by assumption) ?_
  rotate_left
  · intro w hSw; (try dsimp only at hSw); go_simp; (try with_reducible rfl)
  (try simp only [Act.put, List.getElem_toArray, List.getElem_cons_succ, List.getElem_cons_zero, List.setIfInBounds_toArray, List.set_cons_zero, List.set_cons_succ])
  refine wpAnyZ_take (i := 5) (v := ?_) rfl (by kernel_rfl) (by kernel_rfl) (by kernel_rfl) (by kernel_rfl) (fun _ _ _ h => h) (Or.inl ⟨by first | kernel_rfl | rfl, ?_⟩) (by assumption) ?_
  rotate_left
  · intro w hSw; (try dsimp only at hSw); go_simp; (try with_reducible rfl)
  (try simp only [Act.put, List.getElem_toArray, List.getElem_cons_succ, List.getElem_cons_zero, List.setIfInBounds_toArray, List.set_cons_zero, List.set_cons_succ])
  refine wpAnyZ_take (i := 6) (v := ?_) rfl (by kernel_rfl) (by kernel_rfl) (by kernel_rfl) (by kernel_rfl) (fun _ _ _ h => h) (Or.inl ⟨by first | kernel_rfl | rfl, ?_⟩) (by assumption) ?_
  rotate_left
  · intro w hSw; (try dsimp only at hSw); go_simp; (try with_reducible rfl)
  (try simp only [Act.put, List.getElem_toArray, List.getElem_cons_succ, List.getElem_cons_zero, List.setIfInBounds_toArray, List.set_cons_zero, List.set_cons_succ])
  refine wpAnyZ_ready (i := 3) (by kernel_rfl) rfl (fun K hK => ?_)
  go_simp
  refine (one_st (St.here (Lib.hid (HKS.out.step HB0.out))) sx HOX qx hqx2).mono ?_
  rintro e v1 ⟨la, HLA, rfl, HKa⟩
  have HB1 : Hid (Below wq.heap.size wq v1) := Lib.hid (below_to HB0.out HKa.out.2)
  refine hK.out _ _ ((HS6.out _ HB1.out)) (fun hHeld => ?_)
  clear hK K
  (try simp only [Act.put, List.getElem_toArray, List.getElem_cons_succ, List.getElem_cons_zero, List.setIfInBounds_toArray, List.set_cons_zero, List.set_cons_succ])
  refine wpAnyZ_ready (i := 7) (by kernel_rfl) rfl (fun K hK => ?_)
  go_simp
  refine (one_st (St.here (Lib.hid (HKS.out.step HB1.out))) sy HOY qy hqy2).mono ?_
  rintro e v2 ⟨lb, HLB, rfl, HKb⟩
  have HB2 : Hid (Below wq.heap.size wq v2) := Lib.hid (below_to HB1.out HKb.out.2)
  refine hK.out _ _ ((HS6.out _ HB2.out)) (fun hHeld => ?_)
  clear hK K
  (try simp only [Act.put, List.getElem_toArray, List.getElem_cons_succ, List.getElem_cons_zero, List.setIfInBounds_toArray, List.set_cons_zero, List.set_cons_succ])
  refine wpAnyZ_take (i := 8) (v := ?_) rfl (by kernel_rfl) (by kernel_rfl) (by kernel_rfl) (by kernel_rfl) (fun _ _ _ h => h) (Or.inl ⟨by first | kernel_rfl | rfl, ?_⟩) (by assumption) ?_
  rotate_left
  · intro w hSw; (try dsimp only at hSw); go_simp; (try with_reducible rfl)
  (try simp only [Act.put, List.getElem_toArray, List.getElem_cons_succ, List.getElem_cons_zero, List.setIfInBounds_toArray, List.set_cons_zero, List.set_cons_succ])
  refine wpAnyZ_ready (i := 9) (by kernel_rfl) rfl (fun K hK => ?_)
  go_simp
  obtain ⟨bl, hbl⟩ : ∃ z, v2.heap.size = z := ⟨_, rfl⟩
  have HBL := Lib.hid hbl
  have HL0 : Hid ((v2.alloc (.cells #[.string (bitsV la), .string (bitsV lb), .int .i64 (-1), .int .i64 0] 55)).heap[bl]? = some (.cells #[.string (bitsV la), .string (bitsV lb), .int .i64 (-1), .int .i64 0] 55 (0, 0))) := Lib.hid (by rw [← hbl]; exact heap_alloc_new v2 _)
  have HB3 : Hid (Below wq.heap.size wq (v2.alloc (.cells #[.string (bitsV la), .string (bitsV lb), .int .i64 (-1), .int .i64 0] 55))) := Lib.hid (HB2.out.alloc HB2.out.size _)
  have HZL : Hid (wq.heap.size ≤ bl ∧ (v2.alloc (.cells #[.string (bitsV la), .string (bitsV lb), .int .i64 (-1), .int .i64 0] 55)).heap.size = bl + 1) := Lib.hid ⟨by rw [← hbl]; exact HB2.out.size, by rw [← hbl]; simp⟩
  (try rw [hbl])
  obtain ⟨v3, hv3⟩ : ∃ z, v2.alloc (.cells #[.string (bitsV la), .string (bitsV lb), .int .i64 (-1), .int .i64 0] 55) = z := ⟨_, rfl⟩
  rw [hv3] at HL0 HB3 HZL ⊢
  clear hv3 hbl
  refine hK.out _ _ ((HS6.out _ HB3.out)) (fun hHeld => ?_)
  clear hK K
  (try simp only [Act.put, List.getElem_toArray, List.getElem_cons_succ, List.getElem_cons_zero, List.setIfInBounds_toArray, List.set_cons_zero, List.set_cons_succ])
  refine wpAnyZ_last (i := 10) rfl (by kernel_rfl) (by kernel_rfl) rfl (fun K hK => ?_)
  go_simp
  refine hK.out _ _ ?_
  clear hHeld hK K
  (try simp only [Act.put, List.getElem_toArray, List.getElem_cons_succ, List.getElem_cons_zero, List.setIfInBounds_toArray, List.set_cons_zero, List.set_cons_succ])
  rw [HXS.out] at HLA
  rw [HYS.out] at HLB
  have HS7 : Hid (∀ V, Below v3.heap.size v3 V → V.cell? ⟨bl, 0, none⟩ = some (.string (bitsV la)) ∧ V.cell? ⟨bl, 1, none⟩ = some (.string (bitsV lb))) := Lib.hid fun V hV => by
    have h := (hV.block bl (by have := HZL.out.2; omega)).trans HL0.out
    exact ⟨by simp [World.cell?, h], by simp [World.cell?, h]⟩
  go_upto_region 7 with fail
  refine wp_region_Z 12 (by kernel_rfl) (fun V => V.cell? ⟨bl, 0, none⟩ = some (.string (bitsV la)) ∧ V.cell? ⟨bl, 1, none⟩ = some (.string (bitsV lb))) (HS7.out _ (Below.refl _ _).drew) (fun hHeld => ?_)
  have HC4 : Hid (Below v3.heap.size v3 v3.drew) := Lib.hid (Below.refl _ _).drew
  have HE4 : Hid (v3.drew.heap.size = bl + 1) := Lib.hid HZL.out.2
  obtain ⟨v4, hv4⟩ : ∃ z, v3.drew = z := ⟨_, rfl⟩
  rw [hv4] at hHeld HC4 HE4 ⊢
  clear hv4
  refine wpAnyZ_take (i := 1) (v := ?_) rfl (by kernel_rfl) (by kernel_rfl) (by kernel_rfl) (by kernel_rfl) (fun _ _ _ h => h) (Or.inl ⟨by first | kernel_rfl | rfl, ?_⟩) (by assumption) ?_
  rotate_left
  · intro w hSw; (try dsimp only at hSw); go_simp; (try with_reducible rfl)
  (try simp only [Act.put, List.getElem_toArray, List.getElem_cons_succ, List.getElem_cons_zero, List.setIfInBounds_toArray, List.set_cons_zero, List.set_cons_succ])
  refine wpAnyZ_take (i := 2) (v := ?_) rfl (by kernel_rfl) (by kernel_rfl) (by kernel_rfl) (by kernel_rfl) (fun _ _ _ h => h) (Or.inl ⟨by first | kernel_rfl | rfl, ?_⟩) (by assumption) ?_
  rotate_left
  · intro w hSw; (try dsimp only at hSw); go_simp; (try with_reducible rfl)
  (try simp only [Act.put, List.getElem_toArray, List.getElem_cons_succ, List.getElem_cons_zero, List.setIfInBounds_toArray, List.set_cons_zero, List.set_cons_succ])
  refine wpAnyZ_take (i := 3) (v := ?_) rfl (by kernel_rfl) (by kernel_rfl) (by kernel_rfl) (by kernel_rfl) (fun _ _ _ h => h) (Or.inl ⟨by first | kernel_rfl | rfl, ?_⟩) (by assumption) ?_
  rotate_left
  · intro w hSw; (try dsimp only at hSw); go_simp; (try with_reducible rfl)
  (try simp only [Act.put, List.getElem_toArray, List.getElem_cons_succ, List.getElem_cons_zero, List.setIfInBounds_toArray, List.set_cons_zero, List.set_cons_succ])
  refine wpAnyZ_take (i := 4) (v := ?_) rfl (by kernel_rfl) (by kernel_rfl) (by kernel_rfl) (by kernel_rfl) (fun _ _ _ h => h) (Or.inl ⟨by first | kernel_rfl | rfl, ?_⟩) (by assumption) ?_
  rotate_left
  · intro w hSw; (try dsimp only at hSw); go_simp; (try with_reducible rfl)
  (try simp only [Act.put, List.getElem_toArray, List.getElem_cons_succ, List.getElem_cons_zero, List.setIfInBounds_toArray, List.set_cons_zero, List.set_cons_succ])
  refine wpAnyZ_take (i := 5) (v := ?_) rfl (by kernel_rfl) (by kernel_rfl) (by kernel_rfl) (by kernel_rfl) (fun _ _ _ h => h) (Or.inl ⟨by first | kernel_rfl | rfl, ?_⟩) (by assumption) ?_
  rotate_left
  · intro w hSw; (try dsimp only at hSw); go_simp; (try with_reducible rfl)
  (try simp only [Act.put, List.getElem_toArray, List.getElem_cons_succ, List.getElem_cons_zero, List.setIfInBounds_toArray, List.set_cons_zero, List.set_cons_succ])
  refine wpAnyZ_take (i := 6) (v := ?_) rfl (by kernel_rfl) (by kernel_rfl) (by kernel_rfl) (by kernel_rfl) (fun _ _ _ h => h) (Or.inl ⟨by first | kernel_rfl | rfl, ?_⟩) (by assumption) ?_
  rotate_left
  · intro w hSw; (try dsimp only at hSw); go_simp; (try with_reducible rfl)
  (try simp only [Act.put, List.getElem_toArray, List.getElem_cons_succ, List.getElem_cons_zero, List.setIfInBounds_toArray, List.set_cons_zero, List.set_cons_succ])
  refine wpAnyZ_take (i := 7) (v := ?_) rfl (by kernel_rfl) (by kernel_rfl) (by kernel_rfl) (by kernel_rfl) (fun _ _ _ h => h) (Or.inl ⟨by first | kernel_rfl | rfl, ?_⟩) (by assumption) ?_
  rotate_left
  · intro w hSw; (try dsimp only at hSw); go_simp; (try with_reducible rfl)
  (try simp only [Act.put, List.getElem_toArray, List.getElem_cons_succ, List.getElem_cons_zero, List.setIfInBounds_toArray, List.set_cons_zero, List.set_cons_succ])
  refine wpAnyZ_take (i := 8) (v := ?_) rfl (by kernel_rfl) (by kernel_rfl) (by kernel_rfl) (by kernel_rfl) (fun _ _ _ h => h) (Or.inl ⟨by first | kernel_rfl | rfl, ?_⟩) (by assumption) ?_
  rotate_left
  · intro w hSw; (try dsimp only at hSw); go_simp; (try with_reducible rfl)
  (try simp only [Act.put, List.getElem_toArray, List.getElem_cons_succ, List.getElem_cons_zero, List.setIfInBounds_toArray, List.set_cons_zero, List.set_cons_succ])
  refine wpAnyZ_take (i := 9) (v := ?_) rfl (by kernel_rfl) (by kernel_rfl) (by kernel_rfl) (by kernel_rfl) (fun _ _ _ h => h) (Or.inl ⟨by first | kernel_rfl | rfl, ?_⟩) (by assumption) ?_
  rotate_left
  · intro w hSw; (try dsimp only at hSw); go_simp; (try with_reducible rfl)
  (try simp only [Act.put, List.getElem_toArray, List.getElem_cons_succ, List.getElem_cons_zero, List.setIfInBounds_toArray, List.set_cons_zero, List.set_cons_succ])
  refine wpAnyZ_ready (i := 0) (by kernel_rfl) rfl (fun K hK => ?_)
  have hmm := @run_makeMap Try.prog
  go_simp
  clear hmm
  have HM0 := MapIs.made (P := Try.prog) (kt := 57) v4
  have HC5 : Hid (Below v3.heap.size v3 (v4.alloc (.map #[] 0))) := Lib.hid (HC4.out.alloc HC4.out.size _)
  (try rw [HE4.out])
  rw [HE4.out] at HM0
  obtain ⟨v5, hv5⟩ : ∃ z, v4.alloc (.map #[] 0) = z := ⟨_, rfl⟩
  rw [hv5] at HM0 HC5 ⊢
  clear hv5
  refine hK.out _ _ ((HS7.out _ HC5.out)) (fun hHeld => ?_)
  clear hK K
  (try simp only [Act.put, List.getElem_toArray, List.getElem_cons_succ, List.getElem_cons_zero, List.setIfInBounds_toArray, List.set_cons_zero, List.set_cons_succ])
  have hsa : (bitsV la).size ≤ maxLen := by rw [bitsV_size, HLA.out.len]; simp [firstP, toDS, maxLen]; omega
  have hsb : (bitsV lb).size ≤ maxLen := by rw [bitsV_size, HLB.out.len]; simp [firstP, toDS, maxLen]; omega
  obtain ⟨kl, hkl⟩ := set_key hsa hsb
  obtain ⟨v6, hrun, hMB, hGB, hSB⟩ := HM0.put set_keyed Try.underlying58 (by simp [maxLen]) (.int .i64 1) hkl
  rw [mapPut_new (fun q hq => by cases hq)] at hMB
  refine wpAnyZ_ready (i := 10) (by kernel_rfl) rfl (fun K hK => ?_)
  refine wp_insert rfl rfl rfl rfl hrun ?_
  have HC6 : Hid (Below v3.heap.size v3 v6) := Lib.hid (HC5.out.grown hGB HC5.out.size (fun k hk => by injection hk with hk; have := HZL.out.2; omega))
  refine hK.out _ _ ((HS7.out _ HC6.out)) (fun hHeld => ?_)
  clear hK K
  (try simp only [Act.put, List.getElem_toArray, List.getElem_cons_succ, List.getElem_cons_zero, List.setIfInBounds_toArray, List.set_cons_zero, List.set_cons_succ])
  refine wpAnyZ_ready (i := 11) (by kernel_rfl) rfl (fun K hK => ?_)
  go_simp
  refine hK.out _ _ ((HS7.out _ HC6.out)) (fun hHeld => ?_)
  clear hK K
  (try simp only [Act.put, List.getElem_toArray, List.getElem_cons_succ, List.getElem_cons_zero, List.setIfInBounds_toArray, List.set_cons_zero, List.set_cons_succ])
  refine wpAnyZ_last (i := 12) rfl (by kernel_rfl) (by kernel_rfl) rfl (fun K hK => ?_)
  go_simp
  refine hK.out _ _ ?_
  clear hHeld hK K
  (try simp only [Act.put, List.getElem_toArray, List.getElem_cons_succ, List.getElem_cons_zero, List.setIfInBounds_toArray, List.set_cons_zero, List.set_cons_succ])
  /- the two loops -/
  have hz3 := HZL.out
  have HB6 : Hid (Below wq.heap.size wq v6) := Lib.hid (HB3.out.trans (HC6.out.mono (by omega)))
  have HMB := Lib.hid hMB
  have HOW : Hid (v6.ownsRow wq.heap.size 55 4 (.slice (some ⟨bl, 0, none⟩) 1 1) 1 ([(⟨la, lb, -1, 0⟩ : PairI)].flatMap pairC)) := Lib.hid ⟨rfl, .inr ⟨bl, 1, _, rfl, hz3.1, (HC6.out.block bl (by omega)).trans HL0.out, Nat.le_refl _, by unfold maxLen; omega, rfl, rfl⟩⟩
  obtain ⟨dx, hdx⟩ : ∃ d, toDS x ls nx = d := ⟨_, rfl⟩
  obtain ⟨dy, hdy⟩ : ∃ d, toDS y ls ny = d := ⟨_, rfl⟩
  rw [hdx] at HLA
  rw [hdy] at HLB
  have HDX := Lib.hid hdx
  have HDY := Lib.hid hdy
  obtain ⟨N, hN⟩ : ∃ k, n.toNat = k := ⟨_, rfl⟩
  have HN := Lib.hid hN
  obtain ⟨S, hS⟩ : ∃ s, sameP dx dy ls.length N = s := ⟨_, rfl⟩
  have HSA : Hid (sameAns x y n (bodies O) = S) := Lib.hid (by
    unfold sameAns
    rw [HLS.out, HNX.out, HNY.out, Int.toNat_natCast, Int.toNat_natCast, HDX.out, HDY.out, HN.out, ← hS, show (bodies O).length = ls.length by rw [← HLS.out, List.length_map]])
  have HGO : Hid (goP dx dy ls.length N (N + 1 - 0) 0 [((firstP dx, firstP dy), [])] = S) := Lib.hid hS
  have HP0 : Hid (PairOf nx ny (firstP dx, firstP dy) ⟨la, lb, -1, 0⟩) := Lib.hid ⟨HLA.out, HLB.out, by rw [← HDX.out]; simp [firstP, toDS], by rw [← HDY.out]; simp [firstP, toDS]⟩
  have hnN : n ≤ (N : Int) := by omega
  have hN4 : N ≤ 4096 := by omega
  clear hdx hdy hN hS hrun hGB hMB hSB hsa hsb hkl HM0 HLA HLB HS7 HC4 HC5 HC6 HE4 HB0 HB1 HB2 HB3 HKa HKb hqx2 hqy2
  go_wp2_with fail
  go_loopw [14, 16] (fun lv kv wr => ∃ (k : Nat) (PL : List (QP × List Nat)) (L : List PairI) (A : Option Addr) (c : Nat) (M : List (Value × Value)), lv = .slice A L.length c ∧ kv = .int .i64 (k : Int) ∧ k ≤ N ∧ Hid (ListI nx ny ls.length PL L) ∧ Hid (KeysI L M) ∧ Hid (goP dx dy ls.length N (N + 1 - k) k PL = S) ∧ Hid (L.length ≤ 1 + k * 1025) ∧
    Hid (wr.ownsRow wq.heap.size 55 4 (.slice A L.length c) L.length (L.flatMap pairC)) ∧ Hid (MapIs Try.prog 57 (bl + 1) M wr) ∧ Hid (Below wq.heap.size wq wr)) (fun _ kv _ => N + 1 - (intOf kv).toNat)
  case atStart => exact ⟨0, _, [⟨la, lb, -1, 0⟩], _, 1, _, rfl, rfl, Nat.zero_le _, Lib.hid (ListI.first HP0.out), Lib.hid ⟨fun q hq => by rw [List.mem_singleton] at hq; subst hq; exact ⟨rfl, _, List.mem_singleton.2 rfl, rfl⟩, fun q hq => by rw [List.mem_singleton] at hq; subst hq; exact List.mem_singleton.2 rfl, Nat.le_refl _⟩, HGO, Lib.hid (Nat.le_refl _), HOW, HMB, HB6⟩
  case round =>
  clear HOW HMB HB6 HGO HP0 HL0
  obtain ⟨k, PL, L, A1, c1, M, rfl, rfl, hkN, HLI2, HKI, HGO, HLL, HOW, HMI, HBW⟩ := hrel
  have hLl := HLL.out
  have HKW : Hid (St w0 wr (fun W => BoxC b1 (sideC sx) W ∧ BoxC b2 (sideC sy) W ∧ SideW sx W ∧ SideW sy W ∧ IntsAt B ls W ∧ F2 W)) := Lib.hid (HKS.out.step HBW.out)
  obtain ⟨f, hf⟩ : ∃ f, N + 1 - k = f + 1 := ⟨N - k, by omega⟩
  rw [hf] at HGO
  by_cases hkl : k < L.length
  case neg =>
    obtain ⟨hd⟩ : Nonempty (decide ((k : Int) < (L.length : Int)) = false) := ⟨by simp; omega⟩
    have HSS : Hid (S = .same) := Lib.hid (by
      rw [← HGO.out]
      exact goP_same (List.getElem?_eq_none (by rw [← HLI2.out.len]; omega)))
    go_wp2_with fail
    go_ret3
    exact .inr (.inr ⟨HOK.out, bodies O, HS.out, by rw [bodies_length]; exact hO, .inl ⟨HSA.out.trans HSS.out, rfl, Lib.hid (HKW.out.weaken fun W h => (HF2.out W h.2.2.2.2.2).2.2)⟩⟩)
  obtain ⟨e, he⟩ : ∃ e, PL[k]? = some e := ⟨_, List.getElem?_eq_getElem (by rw [← HLI2.out.len]; exact hkl)⟩
  have HE := Lib.hid he
  have hkli : (k : Int) < (L.length : Int) := by omega
  by_cases hkn : k < N
  case neg =>
    have HSS : Hid (S = .budget) := Lib.hid (by
      rw [← HGO.out]
      exact goP_budget he (by omega))
    have hge : n ≤ (k : Int) := by omega
    have hgd : decide (n ≤ (k : Int)) = true := by simp [hge]
    clear he
    go_wp2_with fail
    go_ret3
    exact .inr (.inr ⟨HOK.out, bodies O, HS.out, by rw [bodies_length]; exact hO, .inr (.inl ⟨HSA.out.trans HSS.out, rfl, Lib.hid (HKW.out.weaken fun W h => (HF2.out W h.2.2.2.2.2).2.2)⟩)⟩)
  have hge : ¬ n ≤ (k : Int) := by have := HN.out; omega
  have hgd : decide (n ≤ (k : Int)) = false := by simp [hge]
  have hPA : PairsAt A1 L wr := ⟨Sl.of_own HOW.out, fun _ _ => trivial, by omega⟩
  have HPA := Lib.hid hPA
  obtain ⟨lb0, loff, p, hA, hp, c0, c1', c2, c3⟩ := hPA.at_ hkl
  have HPO := Lib.hid (HLI2.out.pair k e p he hp)
  have HPW := Lib.hid (HLI2.out.word k e he)
  obtain ⟨la, lb, fr, bk⟩ := p
  simp only at c0 c1' c2 c3
  have HA1 := Lib.hid hA
  rw [hA]
  clear hPA hp he hA
  go_wp2_with fail
  obtain ⟨bp, hbp⟩ : ∃ z, wr.heap.size = z := ⟨_, rfl⟩
  have HBP0 : Hid ((wr.alloc (.cells #[.string (bitsV la), .string (bitsV lb), .int .i64 fr, .int .i64 (bk : Int)] 55)).heap[bp]? = some (.cells #[.string (bitsV la), .string (bitsV lb), .int .i64 fr, .int .i64 (bk : Int)] 55 (0, 0))) := Lib.hid (by rw [← hbp]; exact heap_alloc_new wr _)
  have HBB0 : Hid (Below wr.heap.size wr (wr.alloc (.cells #[.string (bitsV la), .string (bitsV lb), .int .i64 fr, .int .i64 (bk : Int)] 55))) := Lib.hid ((Below.refl _ _).alloc (Nat.le_refl _) _)
  have hbs : (wr.alloc (.cells #[.string (bitsV la), .string (bitsV lb), .int .i64 fr, .int .i64 (bk : Int)] 55)).heap.size = bp + 1 := by rw [← hbp]; simp
  (try rw [hbp])
  obtain ⟨wb, hwb⟩ : ∃ z, wr.alloc (.cells #[.string (bitsV la), .string (bitsV lb), .int .i64 fr, .int .i64 (bk : Int)] 55) = z := ⟨_, rfl⟩
  rw [hwb] at HBP0 HBB0 hbs
  (try rw [hwb])
  have HBS := Lib.hid (And.intro hbp hbs)
  have hzbp : wq.heap.size ≤ bp := by rw [← hbp]; exact HBW.out.size
  have HZP := Lib.hid hzbp
  have HKb : Hid (St w0 wb (fun W => BoxC b1 (sideC sx) W ∧ BoxC b2 (sideC sy) W ∧ SideW sx W ∧ SideW sy W ∧ IntsAt B ls W ∧ F2 W)) := Lib.hid (HKW.out.step HBB0.out)
  have HSB : Hid (∀ V, Below wb.heap.size wb V → (V.cell? ⟨b1, 0, none⟩ = some (.slice sx.ta sx.tos.length sx.tc) ∧ V.cell? ⟨b1, 1, none⟩ = some (.slice sx.fa sx.fin.length sx.fc) ∧ V.cell? ⟨b2, 0, none⟩ = some (.slice sy.ta sy.tos.length sy.tc) ∧ V.cell? ⟨b2, 1, none⟩ = some (.slice sy.fa sy.fin.length sy.fc)) ∧ V.cell? ⟨bp, 0, none⟩ = some (.string (bitsV la)) ∧ V.cell? ⟨bp, 1, none⟩ = some (.string (bitsV lb))) := Lib.hid fun V hV =>
    let h := HKb.out.1 V hV
    ⟨⟨h.1 0 _ rfl, h.1 1 _ rfl, h.2.1 0 _ rfl, h.2.1 1 _ rfl⟩, by
      have h := (hV.block bp (by omega)).trans HBP0.out
      exact ⟨by simp [World.cell?, h], by simp [World.cell?, h]⟩⟩
  obtain ⟨v1, hv1⟩ : ∃ v, endsI sx.fin e.1.1 = v := ⟨_, rfl⟩
  obtain ⟨v2, hv2⟩ : ∃ v, endsI sy.fin e.1.2 = v := ⟨_, rfl⟩
  have HV1 := Lib.hid hv1
  have HV2 := Lib.hid hv2
  have HDF : Hid (diffP dx dy e.1 = (v1 != v2)) := Lib.hid (by
    have E1 : endsP dx e.1.1 = v1 := by rw [← HDX.out, ← endsI_eq HSX.out.2 (fin_bd HXOK.out HNX.out), hv1]
    have E2 : endsP dy e.1.2 = v2 := by rw [← HDY.out, ← endsI_eq HSY.out.2 (fin_bd HYOK.out HNY.out), hv2]
    unfold diffP
    rw [E1, E2])
  have HLE1 : Hid (e.1.1.length = sx.fin.length) := Lib.hid (by rw [HPO.out.la, HFX.out])
  have HLE2 : Hid (e.1.2.length = sy.fin.length) := Lib.hid (by rw [HPO.out.lb, HFY.out])
  clear hv1 hv2 hwb hbp hbs c0 c1' c2 c3 hzbp
  go_cut [80] (fun s80 wn => ∃ d : Bool, s80 = .bool d ∧ d = (v1 != v2) ∧ Hid (Below wb.heap.size wb wn))
  case first =>
    refine wp_region_held_drew (by kernel_rfl) (S := fun V => (V.cell? ⟨b1, 0, none⟩ = some (.slice sx.ta sx.tos.length sx.tc) ∧ V.cell? ⟨b1, 1, none⟩ = some (.slice sx.fa sx.fin.length sx.fc) ∧ V.cell? ⟨b2, 0, none⟩ = some (.slice sy.ta sy.tos.length sy.tc) ∧ V.cell? ⟨b2, 1, none⟩ = some (.slice sy.fa sy.fin.length sy.fc)) ∧ V.cell? ⟨bp, 0, none⟩ = some (.string (bitsV la)) ∧ V.cell? ⟨bp, 1, none⟩ = some (.string (bitsV lb))) (HSB.out _ (Below.refl _ wb).drew) (fun hHeld => ?_)
    have HB0 : Hid (Below wb.heap.size wb wb.drew) := Lib.hid (Below.refl _ _).drew
    obtain ⟨x0, hx0⟩ : ∃ z, wb.drew = z := ⟨_, rfl⟩
    rw [hx0] at hHeld HB0 ⊢
    clear hx0
    refine wpAnyH_take (i := 0) (v := ?_) rfl (by kernel_rfl) (by kernel_rfl) (by kernel_rfl) (fun _ _ _ h => h) (Or.inl ⟨by first | kernel_rfl | rfl, ?_⟩) (by assumption) ?_
    rotate_left
    · intro w hSw; (try dsimp only at hSw); go_simp; (try with_reducible rfl)
    (try simp only [Act.put, List.getElem_toArray, List.getElem_cons_succ, List.getElem_cons_zero, List.setIfInBounds_toArray, List.set_cons_zero, List.set_cons_succ])
    refine wpAnyH_take (i := 1) (v := ?_) rfl (by kernel_rfl) (by kernel_rfl) (by kernel_rfl) (fun _ _ _ h => h) (Or.inl ⟨by first | kernel_rfl | rfl, ?_⟩) (by assumption) ?_
    rotate_left
    · intro w hSw; (try dsimp only at hSw); go_simp; (try with_reducible rfl)
    (try simp only [Act.put, List.getElem_toArray, List.getElem_cons_succ, List.getElem_cons_zero, List.setIfInBounds_toArray, List.set_cons_zero, List.set_cons_succ])
    refine wpAnyH_take (i := 2) (v := ?_) rfl (by kernel_rfl) (by kernel_rfl) (by kernel_rfl) (fun _ _ _ h => h) (Or.inl ⟨by first | kernel_rfl | rfl, ?_⟩) (by assumption) ?_
    rotate_left
    · intro w hSw; (try dsimp only at hSw); go_simp; (try with_reducible rfl)
    (try simp only [Act.put, List.getElem_toArray, List.getElem_cons_succ, List.getElem_cons_zero, List.setIfInBounds_toArray, List.set_cons_zero, List.set_cons_succ])
    refine wpAnyH_take (i := 4) (v := ?_) rfl (by kernel_rfl) (by kernel_rfl) (by kernel_rfl) (fun _ _ _ h => h) (Or.inl ⟨by first | kernel_rfl | rfl, ?_⟩) (by assumption) ?_
    rotate_left
    · intro w hSw; (try dsimp only at hSw); go_simp; (try with_reducible rfl)
    (try simp only [Act.put, List.getElem_toArray, List.getElem_cons_succ, List.getElem_cons_zero, List.setIfInBounds_toArray, List.set_cons_zero, List.set_cons_succ])
    refine wpAnyH_take (i := 5) (v := ?_) rfl (by kernel_rfl) (by kernel_rfl) (by kernel_rfl) (fun _ _ _ h => h) (Or.inl ⟨by first | kernel_rfl | rfl, ?_⟩) (by assumption) ?_
    rotate_left
    · intro w hSw; (try dsimp only at hSw); go_simp; (try with_reducible rfl)
    (try simp only [Act.put, List.getElem_toArray, List.getElem_cons_succ, List.getElem_cons_zero, List.setIfInBounds_toArray, List.set_cons_zero, List.set_cons_succ])
    refine wpAnyH_take (i := 6) (v := ?_) rfl (by kernel_rfl) (by kernel_rfl) (by kernel_rfl) (fun _ _ _ h => h) (Or.inl ⟨by first | kernel_rfl | rfl, ?_⟩) (by assumption) ?_
    rotate_left
    · intro w hSw; (try dsimp only at hSw); go_simp; (try with_reducible rfl)
    (try simp only [Act.put, List.getElem_toArray, List.getElem_cons_succ, List.getElem_cons_zero, List.setIfInBounds_toArray, List.set_cons_zero, List.set_cons_succ])
    refine wpAnyH_ready (rs := [3]) (by kernel_rfl) (by simp) (AllReadyH.cons rfl (fun K hK => ?_) AllReadyH.nil)
    (try rw [if_pos (by kernel_rfl)])
    go_simp
    refine (ends_st (St.here (Lib.hid (HKb.out.step HB0.out))) sx (fun W h => h.2.2.1) HOX la e.1.1 (Lib.hid HPO.out.a) HLE1.out v1 HV1).mono ?_
    rintro e5 x1 ⟨rfl, HK1⟩
    have HBX1 : Hid (Below wb.heap.size wb x1) := Lib.hid (below_to HB0.out HK1.out.2)
    refine hK.out _ _ ((HSB.out _ HBX1.out)) (fun hHeld => ?_)
    clear hK K
    (try simp only [Act.put, List.getElem_toArray, List.getElem_cons_succ, List.getElem_cons_zero, List.setIfInBounds_toArray, List.set_cons_zero, List.set_cons_succ])
    refine wpAnyH_ready (rs := [7]) (by kernel_rfl) (by simp) (AllReadyH.cons rfl (fun K hK => ?_) AllReadyH.nil)
    (try rw [if_pos (by kernel_rfl)])
    go_simp
    refine (ends_st (St.here (Lib.hid (HKb.out.step HBX1.out))) sy (fun W h => h.2.2.2.1) HOY lb e.1.2 (Lib.hid HPO.out.b) HLE2.out v2 HV2).mono ?_
    rintro e5 x2 ⟨rfl, HK2'⟩
    have HBX2 : Hid (Below wb.heap.size wb x2) := Lib.hid (below_to HBX1.out HK2'.out.2)
    refine hK.out _ _ ((HSB.out _ HBX2.out)) (fun hHeld => ?_)
    clear hK K
    (try simp only [Act.put, List.getElem_toArray, List.getElem_cons_succ, List.getElem_cons_zero, List.setIfInBounds_toArray, List.set_cons_zero, List.set_cons_succ])
    refine wpAnyH_take (i := 8) (v := ?_) rfl (by kernel_rfl) (by kernel_rfl) (by kernel_rfl) (fun _ _ _ h => h) (Or.inl ⟨by first | kernel_rfl | rfl, ?_⟩) (by assumption) ?_
    rotate_left
    · intro w hSw; (try dsimp only at hSw); go_simp; (try with_reducible rfl)
    (try simp only [Act.put, List.getElem_toArray, List.getElem_cons_succ, List.getElem_cons_zero, List.setIfInBounds_toArray, List.set_cons_zero, List.set_cons_succ])
    refine wpAnyH_done (by kernel_rfl) ?_ _
    clear hHeld HK1 HBX1 HB0
    rcases v1 with _ | _ <;> rcases v2 with _ | _
    all_goals
      go_wp2_with fail
      go_meet
      exact ⟨_, rfl, rfl, HBX2⟩
  case rest =>
  obtain ⟨d, rfl, hdf, HBX2⟩ := hcut
  obtain ⟨x2, hx2⟩ : ∃ z, z = wc := ⟨_, rfl⟩
  subst hx2
  rw [← hdf] at HDF
  clear hdf
  have HKx : Hid (St w0 x2 (fun W => BoxC b1 (sideC sx) W ∧ BoxC b2 (sideC sy) W ∧ SideW sx W ∧ SideW sy W ∧ IntsAt B ls W ∧ F2 W)) := Lib.hid (HKb.out.step HBX2.out)
  have HBWX : Hid (Below wr.heap.size wr x2) := Lib.hid (below_to HBB0.out HBX2.out)
  rcases d with _ | _
  rotate_left
  · /- they differ -/
    have HSS : Hid (S = .tells e.2) := Lib.hid (by
      rw [← HGO.out]
      exact goP_tells HE.out hkn HDF.out)
    have HKy : Hid (St w0 x2 (fun W => PairsAt A1 L W ∧ BoxC b1 (sideC sx) W ∧ BoxC b2 (sideC sy) W ∧ SideW sx W ∧ SideW sy W ∧ IntsAt B ls W ∧ F2 W)) := Lib.hid (HKx.out.add (Below.refl _ _) fun W hW => HPA.out.below (below_to HBWX.out hW))
    have hpw := HPW.out
    go_wp2_with fail
    rw [← HA1.out]
    refine (way_st HKy (fun W h => h.1) (fun W h => h.2.2.2.2.2.1) HLI.out c1 cB k e.2 hpw.1 hpw.2.1 (by omega) (by omega)).mono ?_
    rintro e5 x3 ⟨A5, c5, rfl, HO5, HB5⟩
    have HFIN : Hid (St w0 x3 (fun W => Sl W 1 A5 e.2.length (runeC ls e.2) ∧ F W)) := Lib.hid ((HKx.out.add HB5.out (G := fun W => Sl W 1 A5 e.2.length (runeC ls e.2)) (fun W hW => Sl.of_own (own_below HO5.out hW))).weaken fun W h => ⟨h.1, (HF2.out W h.2.2.2.2.2.2).2.2⟩)
    have HPB : Hid ((∀ b ∈ e.2, b < (bodies O).length) ∧ e.2.length ≤ 4096) := Lib.hid ⟨by rw [show (bodies O).length = ls.length by rw [← HLS.out, List.length_map]]; exact hpw.2.1, by omega⟩
    rw [← HLS.out] at HFIN
    clear hpw
    go_wp2_with fail
    go_ret3
    exact .inr (.inr ⟨HOK.out, bodies O, HS.out, by rw [bodies_length]; exact hO, .inr (.inr ⟨e.2, A5, c5, HSA.out.trans HSS.out, rfl, HPB.out.1, HPB.out.2, HFIN⟩)⟩)
  /- they end alike: block by block -/
  have HGN : Hid (goP dx dy ls.length N f (k + 1) (putsP dx dy e PL ls.length) = S) := Lib.hid (by
    rw [← HGO.out]
    exact (goP_step HE.out hkn HDF.out).symm)
  have HBP : Hid (x2.heap[bp]? = some (.cells #[.string (bitsV la), .string (bitsV lb), .int .i64 fr, .int .i64 (bk : Int)] 55 (0, 0))) := Lib.hid ((HBX2.out.block bp (by have := HBS.out; omega)).trans HBP0.out)
  have HOX2 : Hid (x2.ownsRow wq.heap.size 55 4 (.slice A1 L.length c1) L.length (L.flatMap pairC)) := Lib.hid (own_below HOW.out HBWX.out)
  have HMX2 : Hid (MapIs Try.prog 57 (bl + 1) M x2) := Lib.hid (HMI.out.same (HBWX.out.block _ HMI.out.lt))
  have HNB : Hid (ownA A1 ≠ some bp) := Lib.hid fun e => by
    have h1 := (HOW.out.lt bp (by rw [own_ownA]; exact e)).2
    have h2 := HBS.out.1
    omega
  have HBQ : Hid (Below wq.heap.size wq x2) := Lib.hid (HBW.out.trans (HBWX.out.mono HBW.out.size))
  have hbS := HBS.out
  have HPL : Hid (putsP dx dy e PL 0 = PL) := Lib.hid rfl
  rw [← HA1.out]
  clear HBX2 HBP0 HBB0 HKb HSB HKW HOW HMI HBW HBWX HPA hbS
  go_wp2_with fail
  go_loopw [14, 87] (fun lv jv wv => ∃ (j : Nat) (L2 : List PairI) (A2 : Option Addr) (c2 : Nat) (M2 : List (Value × Value)), lv = .slice A2 L2.length c2 ∧ jv = .int .i64 (j : Int) ∧ j ≤ ls.length ∧ Hid (ListI nx ny ls.length (putsP dx dy e PL j) L2) ∧ Hid (KeysI L2 M2) ∧ Hid (L2.length ≤ L.length + j) ∧
    Hid (wv.ownsRow wq.heap.size 55 4 (.slice A2 L2.length c2) L2.length (L2.flatMap pairC)) ∧ Hid (MapIs Try.prog 57 (bl + 1) M2 wv) ∧ Hid (wv.heap[bp]? = some (.cells #[.string (bitsV la), .string (bitsV lb), .int .i64 fr, .int .i64 (bk : Int)] 55 (0, 0))) ∧ Hid (ownA A2 ≠ some bp) ∧ Hid (Below wq.heap.size wq wv)) (fun _ jv _ => ls.length - (intOf jv).toNat)
  case atStart => exact ⟨0, L, A1, c1, M, rfl, rfl, Nat.zero_le _, by rw [HPL.out]; exact HLI2, HKI, Lib.hid (Nat.le_refl _), HOX2, HMX2, HBP, HNB, HBQ⟩
  case round =>
  clear HOX2 HMX2 HBP HNB HBQ HKx
  obtain ⟨j, L2, A2, c2, M2, rfl, rfl, hjl, HLJ, HKJ, HLN, HOJ, HMJ, HBJ, HNJ, HBQ⟩ := hrel
  obtain ⟨wv, hwv⟩ : ∃ z, z = wr := ⟨_, rfl⟩
  subst hwv
  have HKv : Hid (St w0 wv (fun W => BoxC b1 (sideC sx) W ∧ BoxC b2 (sideC sy) W ∧ SideW sx W ∧ SideW sy W ∧ IntsAt B ls W ∧ F2 W)) := Lib.hid (HKS.out.step HBQ.out)
  have hLj := HLN.out
  by_cases hlt : j < ls.length
  case neg =>
    obtain rfl : j = ls.length := by omega
    have hd2 : decide (ls.length < ls.length) = false := by simp
    have HGN2 : Hid (goP dx dy ls.length N (N + 1 - (k + 1)) (k + 1) (putsP dx dy e PL ls.length) = S) := Lib.hid (by
      rw [show N + 1 - (k + 1) = f by omega]
      exact HGN.out)
    go_wp2_with fail
    go_roundw
    case rel => exact ⟨k + 1, _, L2, A2, c2, M2, rfl, by go_num, by omega, HLJ, HKJ, HGN2, Lib.hid (by omega), HOJ, HMJ, HBQ⟩
    case measure => simp [intOf]; omega
  obtain ⟨xj, hxj⟩ : ∃ q, ls[j]? = some q := ⟨_, List.getElem?_eq_getElem hlt⟩
  have HXJ := Lib.hid hxj
  have hjx : j < sx.tos.length := by rw [HMX.out]; exact hlt
  have hjy : j < sy.tos.length := by rw [HMY.out]; exact hlt
  have HEX : Hid (behI ((sx.tos.getD j (none, 0, [])).2.2) e.1.1 sx.fin.length sx.fin.length = behindP dx j e.1.1) := Lib.hid (by
    rw [HFX.out, ← HDX.out]
    exact behI_eq hxj (said_row HSX.out hxj) (rule_bd HXOK.out HNX.out) _ (by rw [HLE1.out, HFX.out]))
  have HEY : Hid (behI ((sy.tos.getD j (none, 0, [])).2.2) e.1.2 sy.fin.length sy.fin.length = behindP dy j e.1.2) := Lib.hid (by
    rw [HFY.out, ← HDY.out]
    exact behI_eq hxj (said_row HSY.out hxj) (rule_bd HYOK.out HNY.out) _ (by rw [HLE2.out, HFY.out]))
  have HSV : Hid (∀ V, Below wv.heap.size wv V → (V.cell? ⟨b1, 0, none⟩ = some (.slice sx.ta sx.tos.length sx.tc) ∧ V.cell? ⟨b1, 1, none⟩ = some (.slice sx.fa sx.fin.length sx.fc) ∧ V.cell? ⟨b2, 0, none⟩ = some (.slice sy.ta sy.tos.length sy.tc) ∧ V.cell? ⟨b2, 1, none⟩ = some (.slice sy.fa sy.fin.length sy.fc)) ∧ V.cell? ⟨bp, 0, none⟩ = some (.string (bitsV la)) ∧ V.cell? ⟨bp, 1, none⟩ = some (.string (bitsV lb))) := Lib.hid fun V hV =>
    let h := HKv.out.1 V hV
    ⟨⟨h.1 0 _ rfl, h.1 1 _ rfl, h.2.1 0 _ rfl, h.2.1 1 _ rfl⟩, by
      have h := (hV.block bp (Array.getElem?_eq_some_iff.1 HBJ.out).1).trans HBJ.out
      exact ⟨by simp [World.cell?, h], by simp [World.cell?, h]⟩⟩
  clear hxj
  go_upto_region 19 with fail
  go_cut [19] (fun s19 wn => ∃ (b19 : Nat) (l1 l2 : List Nat), s19 = .pointer (some ⟨b19, 0, none⟩) ∧ Hid (BitsOf l1 (behindP dx j e.1.1)) ∧ Hid (BitsOf l2 (behindP dy j e.1.2)) ∧ Hid (wn.heap[b19]? = some (.cells #[.string (bitsV l1), .string (bitsV l2), .int .i64 (k : Int), .int .i64 (j : Int)] 55 (0, 0))) ∧ Hid (Below wv.heap.size wv wn) ∧ Hid (wv.heap.size ≤ b19))
  case first =>
    refine wp_region_Z 14 (by kernel_rfl) (fun V => (V.cell? ⟨b1, 0, none⟩ = some (.slice sx.ta sx.tos.length sx.tc) ∧ V.cell? ⟨b1, 1, none⟩ = some (.slice sx.fa sx.fin.length sx.fc) ∧ V.cell? ⟨b2, 0, none⟩ = some (.slice sy.ta sy.tos.length sy.tc) ∧ V.cell? ⟨b2, 1, none⟩ = some (.slice sy.fa sy.fin.length sy.fc)) ∧ V.cell? ⟨bp, 0, none⟩ = some (.string (bitsV la)) ∧ V.cell? ⟨bp, 1, none⟩ = some (.string (bitsV lb))) (HSV.out _ (Below.refl _ _).drew) (fun hHeld => ?_)
    have HB0 : Hid (Below wv.heap.size wv wv.drew) := Lib.hid (Below.refl _ _).drew
    obtain ⟨u0, hu0⟩ : ∃ z, wv.drew = z := ⟨_, rfl⟩
    rw [hu0] at hHeld HB0 ⊢
    clear hu0
    refine wpAnyZ_take (i := 0) (v := ?_) rfl (by kernel_rfl) (by kernel_rfl) (by kernel_rfl) (by kernel_rfl) (fun _ _ _ h => h) (Or.inl ⟨by first | kernel_rfl | rfl, ?_⟩) (by assumption) ?_
    rotate_left
    · intro w hSw; (try dsimp only at hSw); go_simp; (try with_reducible rfl)
    (try simp only [Act.put, List.getElem_toArray, List.getElem_cons_succ, List.getElem_cons_zero, List.setIfInBounds_toArray, List.set_cons_zero, List.set_cons_succ])
    refine wpAnyZ_take (i := 1) (v := ?_) rfl (by kernel_rfl) (by kernel_rfl) (by kernel_rfl) (by kernel_rfl) (fun _ _ _ h => h) (Or.inl ⟨by first | kernel_rfl | rfl, ?_⟩) (by assumption) ?_
    rotate_left
    · intro w hSw; (try dsimp only at hSw); go_simp; (try with_reducible rfl)
    (try simp only [Act.put, List.getElem_toArray, List.getElem_cons_succ, List.getElem_cons_zero, List.setIfInBounds_toArray, List.set_cons_zero, List.set_cons_succ])
    refine wpAnyZ_take (i := 2) (v := ?_) rfl (by kernel_rfl) (by kernel_rfl) (by kernel_rfl) (by kernel_rfl) (fun _ _ _ h => h) (Or.inl ⟨by first | kernel_rfl | rfl, ?_⟩) (by assumption) ?_
    rotate_left
    · intro w hSw; (try dsimp only at hSw); go_simp; (try with_reducible rfl)
    (try simp only [Act.put, List.getElem_toArray, List.getElem_cons_succ, List.getElem_cons_zero, List.setIfInBounds_toArray, List.set_cons_zero, List.set_cons_succ])
    refine wpAnyZ_take (i := 3) (v := ?_) rfl (by kernel_rfl) (by kernel_rfl) (by kernel_rfl) (by kernel_rfl) (fun _ _ _ h => h) (Or.inl ⟨by first | kernel_rfl | rfl, ?_⟩) (by assumption) ?_
    rotate_left
    · intro w hSw; (try dsimp only at hSw); go_simp; (try with_reducible rfl)
    (try simp only [Act.put, List.getElem_toArray, List.getElem_cons_succ, List.getElem_cons_zero, List.setIfInBounds_toArray, List.set_cons_zero, List.set_cons_succ])
    refine wpAnyZ_take (i := 5) (v := ?_) rfl (by kernel_rfl) (by kernel_rfl) (by kernel_rfl) (by kernel_rfl) (fun _ _ _ h => h) (Or.inl ⟨by first | kernel_rfl | rfl, ?_⟩) (by assumption) ?_
    rotate_left
    · intro w hSw; (try dsimp only at hSw); go_simp; (try with_reducible rfl)
    (try simp only [Act.put, List.getElem_toArray, List.getElem_cons_succ, List.getElem_cons_zero, List.setIfInBounds_toArray, List.set_cons_zero, List.set_cons_succ])
    refine wpAnyZ_take (i := 6) (v := ?_) rfl (by kernel_rfl) (by kernel_rfl) (by kernel_rfl) (by kernel_rfl) (fun _ _ _ h => h) (Or.inl ⟨by first | kernel_rfl | rfl, ?_⟩) (by assumption) ?_
    rotate_left
    · intro w hSw; (try dsimp only at hSw); go_simp; (try with_reducible rfl)
    (try simp only [Act.put, List.getElem_toArray, List.getElem_cons_succ, List.getElem_cons_zero, List.setIfInBounds_toArray, List.set_cons_zero, List.set_cons_succ])
    refine wpAnyZ_take (i := 7) (v := ?_) rfl (by kernel_rfl) (by kernel_rfl) (by kernel_rfl) (by kernel_rfl) (fun _ _ _ h => h) (Or.inl ⟨by first | kernel_rfl | rfl, ?_⟩) (by assumption) ?_
    rotate_left
    · intro w hSw; (try dsimp only at hSw); go_simp; (try with_reducible rfl)
    (try simp only [Act.put, List.getElem_toArray, List.getElem_cons_succ, List.getElem_cons_zero, List.setIfInBounds_toArray, List.set_cons_zero, List.set_cons_succ])
    refine wpAnyZ_take (i := 8) (v := ?_) rfl (by kernel_rfl) (by kernel_rfl) (by kernel_rfl) (by kernel_rfl) (fun _ _ _ h => h) (Or.inl ⟨by first | kernel_rfl | rfl, ?_⟩) (by assumption) ?_
    rotate_left
    · intro w hSw; (try dsimp only at hSw); go_simp; (try with_reducible rfl)
    (try simp only [Act.put, List.getElem_toArray, List.getElem_cons_succ, List.getElem_cons_zero, List.setIfInBounds_toArray, List.set_cons_zero, List.set_cons_succ])
    refine wpAnyZ_take (i := 10) (v := ?_) rfl (by kernel_rfl) (by kernel_rfl) (by kernel_rfl) (by kernel_rfl) (fun _ _ _ h => h) (Or.inl ⟨by first | kernel_rfl | rfl, ?_⟩) (by assumption) ?_
    rotate_left
    · intro w hSw; (try dsimp only at hSw); go_simp; (try with_reducible rfl)
    (try simp only [Act.put, List.getElem_toArray, List.getElem_cons_succ, List.getElem_cons_zero, List.setIfInBounds_toArray, List.set_cons_zero, List.set_cons_succ])
    refine wpAnyZ_take (i := 11) (v := ?_) rfl (by kernel_rfl) (by kernel_rfl) (by kernel_rfl) (by kernel_rfl) (fun _ _ _ h => h) (Or.inl ⟨by first | kernel_rfl | rfl, ?_⟩) (by assumption) ?_
    rotate_left
    · intro w hSw; (try dsimp only at hSw); go_simp; (try with_reducible rfl)
    (try simp only [Act.put, List.getElem_toArray, List.getElem_cons_succ, List.getElem_cons_zero, List.setIfInBounds_toArray, List.set_cons_zero, List.set_cons_succ])
    refine wpAnyZ_ready2 (i := 4) (j := 13) (by kernel_rfl) rfl rfl (fun K hK => ?_) (fun K hK => ?_)
    ·
      go_simp
      refine (behind_st (St.here (Lib.hid (HKv.out.step HB0.out))) sx (fun W h => h.2.2.1) HOX la e.1.1 (Lib.hid HPO.out.a) HLE1.out j hjx _ (Lib.hid rfl)).mono ?_
      rintro e5 u1 ⟨l1, HL1, rfl, HK1⟩
      have HB1 : Hid (Below wv.heap.size wv u1) := Lib.hid (below_to HB0.out HK1.out.2)
      rw [HEX.out] at HL1
      refine hK.out _ _ ((HSV.out _ HB1.out)) (fun hHeld => ?_)
      clear hK K
      (try simp only [Act.put, List.getElem_toArray, List.getElem_cons_succ, List.getElem_cons_zero, List.setIfInBounds_toArray, List.set_cons_zero, List.set_cons_succ])
      refine wpAnyZ_ready2 (i := 9) (j := 13) (by kernel_rfl) rfl rfl (fun K hK => ?_) (fun K hK => ?_)
      ·
        go_simp
        refine (behind_st (St.here (Lib.hid (HKv.out.step HB1.out))) sy (fun W h => h.2.2.2.1) HOY lb e.1.2 (Lib.hid HPO.out.b) HLE2.out j hjy _ (Lib.hid rfl)).mono ?_
        rintro e5 u2 ⟨l2, HL2, rfl, HK2'⟩
        have HB2 : Hid (Below wv.heap.size wv u2) := Lib.hid (below_to HB1.out HK2'.out.2)
        rw [HEY.out] at HL2
        refine hK.out _ _ ((HSV.out _ HB2.out)) (fun hHeld => ?_)
        clear hK K
        (try simp only [Act.put, List.getElem_toArray, List.getElem_cons_succ, List.getElem_cons_zero, List.setIfInBounds_toArray, List.set_cons_zero, List.set_cons_succ])
        refine wpAnyZ_take (i := 12) (v := ?_) rfl (by kernel_rfl) (by kernel_rfl) (by kernel_rfl) (by kernel_rfl) (fun _ _ _ h => h) (Or.inl ⟨by first | kernel_rfl | rfl, ?_⟩) (by assumption) ?_
        rotate_left
        · intro w hSw; (try dsimp only at hSw); go_simp; (try with_reducible rfl)
        (try simp only [Act.put, List.getElem_toArray, List.getElem_cons_succ, List.getElem_cons_zero, List.setIfInBounds_toArray, List.set_cons_zero, List.set_cons_succ])
        refine wpAnyZ_ready (i := 13) (by kernel_rfl) rfl (fun K hK => ?_)
        go_simp
        obtain ⟨b19, hb19⟩ : ∃ z, u2.heap.size = z := ⟨_, rfl⟩
        have HZ3 : Hid ((u2.alloc (.cells #[.string ⟨#[]⟩, .string ⟨#[]⟩, .int .i64 0, .int .i64 0] 55)).heap[b19]? = some (.cells #[.string ⟨#[]⟩, .string ⟨#[]⟩, .int .i64 0, .int .i64 0] 55 (0, 0))) := Lib.hid (by rw [← hb19]; exact heap_alloc_new u2 _)
        have HL3 : Hid (wv.heap.size ≤ b19 ∧ b19 < (u2.alloc (.cells #[.string ⟨#[]⟩, .string ⟨#[]⟩, .int .i64 0, .int .i64 0] 55)).heap.size) := Lib.hid ⟨by rw [← hb19]; exact HB2.out.size, by rw [← hb19]; simp⟩
        have HB3 : Hid (Below wv.heap.size wv (u2.alloc (.cells #[.string ⟨#[]⟩, .string ⟨#[]⟩, .int .i64 0, .int .i64 0] 55))) := Lib.hid (HB2.out.alloc HB2.out.size _)
        (try rw [hb19])
        obtain ⟨u3, hVV⟩ : ∃ z, u2.alloc (.cells #[.string ⟨#[]⟩, .string ⟨#[]⟩, .int .i64 0, .int .i64 0] 55) = z := ⟨_, rfl⟩
        rw [hVV] at HZ3 HL3 HB3 ⊢
        clear hVV hb19
        refine hK.out _ _ ((HSV.out _ HB3.out)) (fun hHeld => ?_)
        clear hK K
        (try simp only [Act.put, List.getElem_toArray, List.getElem_cons_succ, List.getElem_cons_zero, List.setIfInBounds_toArray, List.set_cons_zero, List.set_cons_succ])
        have hz := HZ3.out
        have g0 : u3.cell? ⟨b19, 0, none⟩ = some (.string ⟨#[]⟩) := by simp [World.cell?, hz]
        have g1 : u3.cell? ⟨b19, 1, none⟩ = some (.string ⟨#[]⟩) := by simp [World.cell?, hz]
        have g2 : u3.cell? ⟨b19, 2, none⟩ = some (.int .i64 0) := by simp [World.cell?, hz]
        have g3 : u3.cell? ⟨b19, 3, none⟩ = some (.int .i64 0) := by simp [World.cell?, hz]
        have f0 : u3.frozen? ⟨b19, 0, none⟩ = false := by simp [World.frozen?, hz]
        have f1 : u3.frozen? ⟨b19, 1, none⟩ = false := by simp [World.frozen?, hz]
        have f2 : u3.frozen? ⟨b19, 2, none⟩ = false := by simp [World.frozen?, hz]
        have f3 : u3.frozen? ⟨b19, 3, none⟩ = false := by simp [World.frozen?, hz]
        have HHE : Hid (((((u3.setCell ⟨b19, 0, none⟩ (.string (bitsV l1))).setCell ⟨b19, 1, none⟩ (.string (bitsV l2))).setCell ⟨b19, 2, none⟩ (.int .i64 (k : Int))).setCell ⟨b19, 3, none⟩ (.int .i64 (j : Int))).heap[b19]? = some (.cells #[.string (bitsV l1), .string (bitsV l2), .int .i64 (k : Int), .int .i64 (j : Int)] 55 (0, 0))) := Lib.hid (heap_setCell_same _ b19 3 _ _ _ (heap_setCell_same _ b19 2 _ _ _ (heap_setCell_same _ b19 1 _ _ _ (heap_setCell_same u3 b19 0 _ _ _ hz))))
        have HBE : Hid (Below wv.heap.size wv ((((u3.setCell ⟨b19, 0, none⟩ (.string (bitsV l1))).setCell ⟨b19, 1, none⟩ (.string (bitsV l2))).setCell ⟨b19, 2, none⟩ (.int .i64 (k : Int))).setCell ⟨b19, 3, none⟩ (.int .i64 (j : Int)))) := Lib.hid ((((HB3.out.setCell (p := ⟨b19, 0, none⟩) HL3.out.1 _).setCell (p := ⟨b19, 1, none⟩) HL3.out.1 _).setCell (p := ⟨b19, 2, none⟩) HL3.out.1 _).setCell (p := ⟨b19, 3, none⟩) HL3.out.1 _)
        clear hz
        refine wpAnyZ_last (i := 14) rfl (by kernel_rfl) (by kernel_rfl) rfl (fun K hK => ?_)
        go_simp
        refine hK.out _ _ ?_
        clear hHeld hK K g0 g1 g2 g3 f0 f1 f2 f3
        (try simp only [Act.put, List.getElem_toArray, List.getElem_cons_succ, List.getElem_cons_zero, List.setIfInBounds_toArray, List.set_cons_zero, List.set_cons_succ])
        go_wp2_with fail
        go_meet
        exact ⟨b19, l1, l2, rfl, HL1, HL2, HHE, HBE, Lib.hid HL3.out.1⟩
      ·
        go_simp
        obtain ⟨b19, hb19⟩ : ∃ z, u1.heap.size = z := ⟨_, rfl⟩
        have HZ2 : Hid ((u1.alloc (.cells #[.string ⟨#[]⟩, .string ⟨#[]⟩, .int .i64 0, .int .i64 0] 55)).heap[b19]? = some (.cells #[.string ⟨#[]⟩, .string ⟨#[]⟩, .int .i64 0, .int .i64 0] 55 (0, 0))) := Lib.hid (by rw [← hb19]; exact heap_alloc_new u1 _)
        have HLL2 : Hid (wv.heap.size ≤ b19 ∧ b19 < (u1.alloc (.cells #[.string ⟨#[]⟩, .string ⟨#[]⟩, .int .i64 0, .int .i64 0] 55)).heap.size) := Lib.hid ⟨by rw [← hb19]; exact HB1.out.size, by rw [← hb19]; simp⟩
        have HB2 : Hid (Below wv.heap.size wv (u1.alloc (.cells #[.string ⟨#[]⟩, .string ⟨#[]⟩, .int .i64 0, .int .i64 0] 55))) := Lib.hid (HB1.out.alloc HB1.out.size _)
        (try rw [hb19])
        obtain ⟨u2, hVV⟩ : ∃ z, u1.alloc (.cells #[.string ⟨#[]⟩, .string ⟨#[]⟩, .int .i64 0, .int .i64 0] 55) = z := ⟨_, rfl⟩
        rw [hVV] at HZ2 HLL2 HB2 ⊢
        clear hVV hb19
        refine hK.out _ _ ((HSV.out _ HB2.out)) (fun hHeld => ?_)
        clear hK K
        (try simp only [Act.put, List.getElem_toArray, List.getElem_cons_succ, List.getElem_cons_zero, List.setIfInBounds_toArray, List.set_cons_zero, List.set_cons_succ])
        refine wpAnyZ_ready (i := 9) (by kernel_rfl) rfl (fun K hK => ?_)
        go_simp
        refine (behind_st (St.here (Lib.hid (HKv.out.step HB2.out))) sy (fun W h => h.2.2.2.1) HOY lb e.1.2 (Lib.hid HPO.out.b) HLE2.out j hjy _ (Lib.hid rfl)).mono ?_
        rintro e5 u3 ⟨l2, HL2, rfl, HK2'⟩
        have HB3 : Hid (Below wv.heap.size wv u3) := Lib.hid (below_to HB2.out HK2'.out.2)
        rw [HEY.out] at HL2
        refine hK.out _ _ ((HSV.out _ HB3.out)) (fun hHeld => ?_)
        clear hK K
        (try simp only [Act.put, List.getElem_toArray, List.getElem_cons_succ, List.getElem_cons_zero, List.setIfInBounds_toArray, List.set_cons_zero, List.set_cons_succ])
        have HZ3 : Hid (u3.heap[b19]? = some (.cells #[.string ⟨#[]⟩, .string ⟨#[]⟩, .int .i64 0, .int .i64 0] 55 (0, 0))) := Lib.hid ((HK2'.out.2.block b19 HLL2.out.2).trans HZ2.out)
        have HL3 : Hid (wv.heap.size ≤ b19 ∧ b19 < u3.heap.size) := Lib.hid ⟨HLL2.out.1, by have h1 := HK2'.out.2.size; have h2 := HLL2.out.2; omega⟩
        refine wpAnyZ_take (i := 12) (v := ?_) rfl (by kernel_rfl) (by kernel_rfl) (by kernel_rfl) (by kernel_rfl) (fun _ _ _ h => h) (Or.inl ⟨by first | kernel_rfl | rfl, ?_⟩) (by assumption) ?_
        rotate_left
        · intro w hSw; (try dsimp only at hSw); go_simp; (try with_reducible rfl)
        (try simp only [Act.put, List.getElem_toArray, List.getElem_cons_succ, List.getElem_cons_zero, List.setIfInBounds_toArray, List.set_cons_zero, List.set_cons_succ])
        have hz := HZ3.out
        have g0 : u3.cell? ⟨b19, 0, none⟩ = some (.string ⟨#[]⟩) := by simp [World.cell?, hz]
        have g1 : u3.cell? ⟨b19, 1, none⟩ = some (.string ⟨#[]⟩) := by simp [World.cell?, hz]
        have g2 : u3.cell? ⟨b19, 2, none⟩ = some (.int .i64 0) := by simp [World.cell?, hz]
        have g3 : u3.cell? ⟨b19, 3, none⟩ = some (.int .i64 0) := by simp [World.cell?, hz]
        have f0 : u3.frozen? ⟨b19, 0, none⟩ = false := by simp [World.frozen?, hz]
        have f1 : u3.frozen? ⟨b19, 1, none⟩ = false := by simp [World.frozen?, hz]
        have f2 : u3.frozen? ⟨b19, 2, none⟩ = false := by simp [World.frozen?, hz]
        have f3 : u3.frozen? ⟨b19, 3, none⟩ = false := by simp [World.frozen?, hz]
        have HHE : Hid (((((u3.setCell ⟨b19, 0, none⟩ (.string (bitsV l1))).setCell ⟨b19, 1, none⟩ (.string (bitsV l2))).setCell ⟨b19, 2, none⟩ (.int .i64 (k : Int))).setCell ⟨b19, 3, none⟩ (.int .i64 (j : Int))).heap[b19]? = some (.cells #[.string (bitsV l1), .string (bitsV l2), .int .i64 (k : Int), .int .i64 (j : Int)] 55 (0, 0))) := Lib.hid (heap_setCell_same _ b19 3 _ _ _ (heap_setCell_same _ b19 2 _ _ _ (heap_setCell_same _ b19 1 _ _ _ (heap_setCell_same u3 b19 0 _ _ _ hz))))
        have HBE : Hid (Below wv.heap.size wv ((((u3.setCell ⟨b19, 0, none⟩ (.string (bitsV l1))).setCell ⟨b19, 1, none⟩ (.string (bitsV l2))).setCell ⟨b19, 2, none⟩ (.int .i64 (k : Int))).setCell ⟨b19, 3, none⟩ (.int .i64 (j : Int)))) := Lib.hid ((((HB3.out.setCell (p := ⟨b19, 0, none⟩) HL3.out.1 _).setCell (p := ⟨b19, 1, none⟩) HL3.out.1 _).setCell (p := ⟨b19, 2, none⟩) HL3.out.1 _).setCell (p := ⟨b19, 3, none⟩) HL3.out.1 _)
        clear hz
        refine wpAnyZ_last (i := 14) rfl (by kernel_rfl) (by kernel_rfl) rfl (fun K hK => ?_)
        go_simp
        refine hK.out _ _ ?_
        clear hHeld hK K g0 g1 g2 g3 f0 f1 f2 f3
        (try simp only [Act.put, List.getElem_toArray, List.getElem_cons_succ, List.getElem_cons_zero, List.setIfInBounds_toArray, List.set_cons_zero, List.set_cons_succ])
        go_wp2_with fail
        go_meet
        exact ⟨b19, l1, l2, rfl, HL1, HL2, HHE, HBE, Lib.hid HL3.out.1⟩
    ·
      go_simp
      obtain ⟨b19, hb19⟩ : ∃ z, u0.heap.size = z := ⟨_, rfl⟩
      have HZ1 : Hid ((u0.alloc (.cells #[.string ⟨#[]⟩, .string ⟨#[]⟩, .int .i64 0, .int .i64 0] 55)).heap[b19]? = some (.cells #[.string ⟨#[]⟩, .string ⟨#[]⟩, .int .i64 0, .int .i64 0] 55 (0, 0))) := Lib.hid (by rw [← hb19]; exact heap_alloc_new u0 _)
      have HLL1 : Hid (wv.heap.size ≤ b19 ∧ b19 < (u0.alloc (.cells #[.string ⟨#[]⟩, .string ⟨#[]⟩, .int .i64 0, .int .i64 0] 55)).heap.size) := Lib.hid ⟨by rw [← hb19]; exact HB0.out.size, by rw [← hb19]; simp⟩
      have HB1 : Hid (Below wv.heap.size wv (u0.alloc (.cells #[.string ⟨#[]⟩, .string ⟨#[]⟩, .int .i64 0, .int .i64 0] 55))) := Lib.hid (HB0.out.alloc HB0.out.size _)
      (try rw [hb19])
      obtain ⟨u1, hVV⟩ : ∃ z, u0.alloc (.cells #[.string ⟨#[]⟩, .string ⟨#[]⟩, .int .i64 0, .int .i64 0] 55) = z := ⟨_, rfl⟩
      rw [hVV] at HZ1 HLL1 HB1 ⊢
      clear hVV hb19
      refine hK.out _ _ ((HSV.out _ HB1.out)) (fun hHeld => ?_)
      clear hK K
      (try simp only [Act.put, List.getElem_toArray, List.getElem_cons_succ, List.getElem_cons_zero, List.setIfInBounds_toArray, List.set_cons_zero, List.set_cons_succ])
      refine wpAnyZ_ready (i := 4) (by kernel_rfl) rfl (fun K hK => ?_)
      go_simp
      refine (behind_st (St.here (Lib.hid (HKv.out.step HB1.out))) sx (fun W h => h.2.2.1) HOX la e.1.1 (Lib.hid HPO.out.a) HLE1.out j hjx _ (Lib.hid rfl)).mono ?_
      rintro e5 u2 ⟨l1, HL1, rfl, HK1⟩
      have HB2 : Hid (Below wv.heap.size wv u2) := Lib.hid (below_to HB1.out HK1.out.2)
      rw [HEX.out] at HL1
      refine hK.out _ _ ((HSV.out _ HB2.out)) (fun hHeld => ?_)
      clear hK K
      (try simp only [Act.put, List.getElem_toArray, List.getElem_cons_succ, List.getElem_cons_zero, List.setIfInBounds_toArray, List.set_cons_zero, List.set_cons_succ])
      have HZ2 : Hid (u2.heap[b19]? = some (.cells #[.string ⟨#[]⟩, .string ⟨#[]⟩, .int .i64 0, .int .i64 0] 55 (0, 0))) := Lib.hid ((HK1.out.2.block b19 HLL1.out.2).trans HZ1.out)
      have HLL2 : Hid (wv.heap.size ≤ b19 ∧ b19 < u2.heap.size) := Lib.hid ⟨HLL1.out.1, by have h1 := HK1.out.2.size; have h2 := HLL1.out.2; omega⟩
      refine wpAnyZ_ready (i := 9) (by kernel_rfl) rfl (fun K hK => ?_)
      go_simp
      refine (behind_st (St.here (Lib.hid (HKv.out.step HB2.out))) sy (fun W h => h.2.2.2.1) HOY lb e.1.2 (Lib.hid HPO.out.b) HLE2.out j hjy _ (Lib.hid rfl)).mono ?_
      rintro e5 u3 ⟨l2, HL2, rfl, HK2'⟩
      have HB3 : Hid (Below wv.heap.size wv u3) := Lib.hid (below_to HB2.out HK2'.out.2)
      rw [HEY.out] at HL2
      refine hK.out _ _ ((HSV.out _ HB3.out)) (fun hHeld => ?_)
      clear hK K
      (try simp only [Act.put, List.getElem_toArray, List.getElem_cons_succ, List.getElem_cons_zero, List.setIfInBounds_toArray, List.set_cons_zero, List.set_cons_succ])
      have HZ3 : Hid (u3.heap[b19]? = some (.cells #[.string ⟨#[]⟩, .string ⟨#[]⟩, .int .i64 0, .int .i64 0] 55 (0, 0))) := Lib.hid ((HK2'.out.2.block b19 HLL2.out.2).trans HZ2.out)
      have HL3 : Hid (wv.heap.size ≤ b19 ∧ b19 < u3.heap.size) := Lib.hid ⟨HLL2.out.1, by have h1 := HK2'.out.2.size; have h2 := HLL2.out.2; omega⟩
      refine wpAnyZ_take (i := 12) (v := ?_) rfl (by kernel_rfl) (by kernel_rfl) (by kernel_rfl) (by kernel_rfl) (fun _ _ _ h => h) (Or.inl ⟨by first | kernel_rfl | rfl, ?_⟩) (by assumption) ?_
      rotate_left
      · intro w hSw; (try dsimp only at hSw); go_simp; (try with_reducible rfl)
      (try simp only [Act.put, List.getElem_toArray, List.getElem_cons_succ, List.getElem_cons_zero, List.setIfInBounds_toArray, List.set_cons_zero, List.set_cons_succ])
      have hz := HZ3.out
      have g0 : u3.cell? ⟨b19, 0, none⟩ = some (.string ⟨#[]⟩) := by simp [World.cell?, hz]
      have g1 : u3.cell? ⟨b19, 1, none⟩ = some (.string ⟨#[]⟩) := by simp [World.cell?, hz]
      have g2 : u3.cell? ⟨b19, 2, none⟩ = some (.int .i64 0) := by simp [World.cell?, hz]
      have g3 : u3.cell? ⟨b19, 3, none⟩ = some (.int .i64 0) := by simp [World.cell?, hz]
      have f0 : u3.frozen? ⟨b19, 0, none⟩ = false := by simp [World.frozen?, hz]
      have f1 : u3.frozen? ⟨b19, 1, none⟩ = false := by simp [World.frozen?, hz]
      have f2 : u3.frozen? ⟨b19, 2, none⟩ = false := by simp [World.frozen?, hz]
      have f3 : u3.frozen? ⟨b19, 3, none⟩ = false := by simp [World.frozen?, hz]
      have HHE : Hid (((((u3.setCell ⟨b19, 0, none⟩ (.string (bitsV l1))).setCell ⟨b19, 1, none⟩ (.string (bitsV l2))).setCell ⟨b19, 2, none⟩ (.int .i64 (k : Int))).setCell ⟨b19, 3, none⟩ (.int .i64 (j : Int))).heap[b19]? = some (.cells #[.string (bitsV l1), .string (bitsV l2), .int .i64 (k : Int), .int .i64 (j : Int)] 55 (0, 0))) := Lib.hid (heap_setCell_same _ b19 3 _ _ _ (heap_setCell_same _ b19 2 _ _ _ (heap_setCell_same _ b19 1 _ _ _ (heap_setCell_same u3 b19 0 _ _ _ hz))))
      have HBE : Hid (Below wv.heap.size wv ((((u3.setCell ⟨b19, 0, none⟩ (.string (bitsV l1))).setCell ⟨b19, 1, none⟩ (.string (bitsV l2))).setCell ⟨b19, 2, none⟩ (.int .i64 (k : Int))).setCell ⟨b19, 3, none⟩ (.int .i64 (j : Int)))) := Lib.hid ((((HB3.out.setCell (p := ⟨b19, 0, none⟩) HL3.out.1 _).setCell (p := ⟨b19, 1, none⟩) HL3.out.1 _).setCell (p := ⟨b19, 2, none⟩) HL3.out.1 _).setCell (p := ⟨b19, 3, none⟩) HL3.out.1 _)
      clear hz
      refine wpAnyZ_last (i := 14) rfl (by kernel_rfl) (by kernel_rfl) rfl (fun K hK => ?_)
      go_simp
      refine hK.out _ _ ?_
      clear hHeld hK K g0 g1 g2 g3 f0 f1 f2 f3
      (try simp only [Act.put, List.getElem_toArray, List.getElem_cons_succ, List.getElem_cons_zero, List.setIfInBounds_toArray, List.set_cons_zero, List.set_cons_succ])
      go_wp2_with fail
      go_meet
      exact ⟨b19, l1, l2, rfl, HL1, HL2, HHE, HBE, Lib.hid HL3.out.1⟩
  case rest =>
  obtain ⟨b19, l1, l2, rfl, HL1, HL2, HH19, HBN, HLE⟩ := hcut
  obtain ⟨wn, hwn⟩ : ∃ z, z = wc := ⟨_, rfl⟩
  subst hwn
  have HPN : Hid (PairOf nx ny (stepP dx dy j e.1) ⟨l1, l2, (k : Int), j⟩) := Lib.hid ⟨HL1.out, HL2.out, by rw [← HDX.out]; simp [stepP, behindP, toDS], by rw [← HDY.out]; simp [stepP, behindP, toDS]⟩
  have hs1 : (bitsV l1).size ≤ maxLen := by rw [bitsV_size, HL1.out.len, ← HDX.out]; simp [behindP, toDS, maxLen]; omega
  have hs2 : (bitsV l2).size ≤ maxLen := by rw [bitsV_size, HL2.out.len, ← HDY.out]; simp [behindP, toDS, maxLen]; omega
  have h19 := HH19.out
  have c0 : wn.cell? ⟨b19, 0, none⟩ = some (.string (bitsV l1)) := by simp [World.cell?, h19]
  have c1' : wn.cell? ⟨b19, 1, none⟩ = some (.string (bitsV l2)) := by simp [World.cell?, h19]
  have HBKK : Hid (Below wv.heap.size wv (wn.alloc (.cells #[.string (bitsV l1), .string (bitsV l2)] 57))) := Lib.hid (HBN.out.alloc HBN.out.size _)
  have HMK : Hid (MapIs Try.prog 57 (bl + 1) M2 (wn.alloc (.cells #[.string (bitsV l1), .string (bitsV l2)] 57))) := Lib.hid (HMJ.out.same (HBKK.out.block _ HMJ.out.lt))
  obtain ⟨kl, hkl⟩ := set_key hs1 hs2
  have HPU : Hid (putsP dx dy e PL (j + 1) = putP dx dy e (putsP dx dy e PL j) j) := Lib.hid (putsP_succ _ _ _ _ _)
  rcases HMK.out.look false set_keyed Try.underlying58 (Try.zeroValue3 _) hkl with ⟨hno, hrun⟩ | ⟨v, hv, hrun⟩
  rotate_left
  · /- the pair is there -/
    obtain ⟨hv1, p, hp, hkp⟩ := HKJ.out.into _ hv
    simp only at hv1 hkp
    subst hv1
    have HAN : Hid (putsP dx dy e PL (j + 1) = putsP dx dy e PL j) := Lib.hid (by
      rw [HPU.out]
      unfold putP
      rw [if_pos ((HLJ.out.any HPN.out).2 ⟨p, hp, hkp.symm⟩)])
    have hrun2 : (Instr.lookup 58 (.map (some (bl + 1))) (.agg #[.string (bitsV l1), .string (bitsV l2)]) false).run Try.prog (wn.alloc (.cells #[.string (bitsV l1), .string (bitsV l2)] 57)) = .ok (.int .i64 1) (wn.alloc (.cells #[.string (bitsV l1), .string (bitsV l2)] 57)) := hrun
    clear hv hp hkp hrun h19
    go_wp2_with fail
    rw [← HAN.out] at HLJ
    exact ⟨⟨j + 1, L2, A2, c2, M2, rfl, by go_num, by omega, HLJ, HKJ, Lib.hid (by omega), Lib.hid (own_below HOJ.out HBKK.out), HMK, Lib.hid ((HBKK.out.block bp (Array.getElem?_eq_some_iff.1 HBJ.out).1).trans HBJ.out), HNJ, Lib.hid (HBQ.out.trans (HBKK.out.mono HBQ.out.size))⟩, by simp [intOf]; omega⟩
  /- a new one -/
  have hrun2 : (Instr.lookup 58 (.map (some (bl + 1))) (.agg #[.string (bitsV l1), .string (bitsV l2)]) false).run Try.prog (wn.alloc (.cells #[.string (bitsV l1), .string (bitsV l2)] 57)) = .ok (.int .i64 0) (wn.alloc (.cells #[.string (bitsV l1), .string (bitsV l2)] 57)) := hrun
  obtain ⟨we, hput, hMN, hGN, hSN⟩ := HMK.out.put set_keyed Try.underlying58 (by have := HKJ.out.len; unfold maxLen; omega) (.int .i64 1) hkl
  rw [mapPut_new hno] at hMN
  have HMN := Lib.hid hMN
  have HGE := Lib.hid hGN
  have HSE := Lib.hid hSN
  have HAN : Hid (putsP dx dy e PL (j + 1) = putsP dx dy e PL j ++ [(stepP dx dy j e.1, e.2 ++ [j])]) := Lib.hid (by
    rw [HPU.out]
    unfold putP
    rw [if_neg fun h => ?_]
    obtain ⟨p, hp, hk⟩ := (HLJ.out.any HPN.out).1 h
    exact hno _ (HKJ.out.of p hp) hk)
  have hput2 : (Instr.mapUpdate 58 (.map (some (bl + 1))) (.agg #[.string (bitsV l1), .string (bitsV l2)]) (.int .i64 1)).run Try.prog (wn.alloc (.cells #[.string (bitsV l1), .string (bitsV l2)] 57)) = .ok () we := hput
  have hnm : b19 ≠ bl + 1 := cells_ne_map h19 (HMJ.out.same (HBN.out.block _ HMJ.out.lt))
  have hwk : (wn.alloc (.cells #[.string (bitsV l1), .string (bitsV l2)] 57)).heap.size = wn.heap.size + 1 := by simp
  have hnl : b19 < wn.heap.size := (Array.getElem?_eq_some_iff.1 h19).1
  have hge : we.heap[b19]? = some (.cells #[.string (bitsV l1), .string (bitsV l2), .int .i64 (k : Int), .int .i64 (j : Int)] 55 (0, 0)) := (hGN.block b19 (by omega) (fun e => hnm (by injection e))).trans ((Below.heap_alloc _ _ _ hnl).trans h19)
  have g0 : we.cell? ⟨b19, 0, none⟩ = some (.string (bitsV l1)) := by simp [World.cell?, hge]
  have g1 : we.cell? ⟨b19, 1, none⟩ = some (.string (bitsV l2)) := by simp [World.cell?, hge]
  have g2 : we.cell? ⟨b19, 2, none⟩ = some (.int .i64 (k : Int)) := by simp [World.cell?, hge]
  have g3 : we.cell? ⟨b19, 3, none⟩ = some (.int .i64 (j : Int)) := by simp [World.cell?, hge]
  have HLO : Hid (∀ q, q < wv.heap.size → q ≠ bl + 1 → we.heap[q]? = wv.heap[q]?) := Lib.hid fun q hq hn =>
    (hGN.block q (by have := HBN.out.size; omega) (fun e => hn (by injection e))).trans (HBKK.out.block q hq)
  have HSZ : Hid (wv.heap.size ≤ we.heap.size) := Lib.hid (by have := HBN.out.size; omega)
  have HOM : Hid (ownA A2 ≠ some (bl + 1)) := Lib.hid (own_ne_map HOJ.out HMJ.out)
  have HOE : Hid (we.ownsRow wq.heap.size 55 4 (.slice A2 L2.length c2) L2.length (L2.flatMap pairC)) := Lib.hid (own_keep HOJ.out fun q hq => HLO.out q (own_ty HOJ.out hq).2.1 (fun e => HOM.out (by rw [hq, e])))
  have HBZ : Hid (Below wq.heap.size wq we) := Lib.hid ((HBQ.out.trans (HBKK.out.mono HBQ.out.size)).grown hGN (by have := HBQ.out.size; have := HBN.out.size; omega) (fun q hq => by injection hq with hq; have := HZL.out.1; omega))
  have hl40 : L2.length < 1099511627776 := by omega
  have hsz : wq.heap.size ≤ we.heap.size := by have := HBQ.out.size; have := HSZ.out; omega
  clear hno hrun hput hMN hGN hSN h19 hge hwk hnl
  go_wp2_with (at_builtin; go_must (refine wpList_pushG rfl _ _ 56 rfl wq.heap.size 55 j0 _ 4 48 Try.underlying56 ji jz0 jz1 jz2 rfl (by decide) HOE.out rfl [.string (bitsV l1), .string (bitsV l2), .int .i64 (k : Int), .int .i64 (j : Int)] 55 (by first | rfl | (simp; rfl) | simp) rfl (by simp [Value.oneCell']) hl40 (by decide) hsz ?_); intro A9 c9 w9 HO9 HG9 HN9)
  have hl2 : (L2 ++ [(⟨l1, l2, (k : Int), j⟩ : PairI)]).length = L2.length + 1 := by simp
  have HLJ2 : Hid (ListI nx ny ls.length (putsP dx dy e PL (j + 1)) (L2 ++ [⟨l1, l2, (k : Int), j⟩])) := Lib.hid (by
    rw [HAN.out]
    exact HLJ.out.push ((putsP_get (List.getElem?_eq_some_iff.1 HE.out).1 j).1.trans HE.out) hlt HPN.out)
  have HON : Hid (w9.ownsRow wq.heap.size 55 4 (.slice A9 (L2 ++ [(⟨l1, l2, (k : Int), j⟩ : PairI)]).length c9) (L2 ++ [(⟨l1, l2, (k : Int), j⟩ : PairI)]).length ((L2 ++ [(⟨l1, l2, (k : Int), j⟩ : PairI)]).flatMap pairC)) := Lib.hid (by
    rw [hl2, List.flatMap_append]
    exact HO9.out)
  have h9k : ∀ q, q < we.heap.size → ownA A2 ≠ some q → w9.heap[q]? = we.heap[q]? := fun q hq hn => (HG9.out.block q (by simp; omega) (fun e => hn e.symm)).trans (Below.heap_alloc _ _ _ hq)
  have hbpv : bp < wv.heap.size := (Array.getElem?_eq_some_iff.1 HBJ.out).1
  have hbpm : bp ≠ bl + 1 := cells_ne_map HBJ.out HMJ.out
  have HM9 : Hid (MapIs Try.prog 57 (bl + 1) ((keyP ⟨l1, l2, (k : Int), j⟩, .int .i64 1) :: M2) w9) := Lib.hid (HMN.out.same (h9k _ HMN.out.lt HOM.out))
  have HB9 : Hid (w9.heap[bp]? = some (.cells #[.string (bitsV la), .string (bitsV lb), .int .i64 fr, .int .i64 (bk : Int)] 55 (0, 0))) := Lib.hid ((h9k bp (by have := HSZ.out; omega) HNJ.out).trans ((HLO.out bp hbpv hbpm).trans HBJ.out))
  have HN9' : Hid (ownA A9 ≠ some bp) := Lib.hid fun e => by
    rcases HN9.out with h | ⟨g, h, hg⟩
    · rw [h] at e; exact HNJ.out e
    · rw [h] at e; injection e with e; have := HSZ.out; omega
  have HBQ9 : Hid (Below wq.heap.size wq w9) := Lib.hid ((HBZ.out.alloc hsz _).grown HG9.out (by simp; omega) fun g hg => (HOE.out.lt g (by rw [own_ownA]; exact hg)).1)
  clear h9k hbpv hbpm g0 g1 g2 g3
  go_wp2_with fail
  exact ⟨⟨j + 1, L2 ++ [⟨l1, l2, (k : Int), j⟩], A9, c9, _, by rw [hl2], by go_num, by omega, HLJ2, Lib.hid (HKJ.out.push _), Lib.hid (by rw [hl2]; omega), HON, HM9, HB9, HN9', HBQ9⟩, by simp [intOf]; omega⟩
end
end Go.Proofs.Ytlmkokeapbleoaa
end
