/- Contract of umlautref17.Same: two tables that are alike. Condition: the tables are known, and are alike. -/
import Derived.Test.YticfbbigljgjdaaSameTerm
import Derived.Test.YticfbbigljgjdaaTabNode
import Derived.ChangeKeysEq
import Derived.Deep.MidRow
namespace Go.Proofs.Yticfbbigljgjdaa
open Go.RowKit
set_option linter.unusedVariables false
set_option linter.unusedSimpArgs false
theorem guardCls : Try.prog.eqGuardType Try.prog.depth 22 = false := by kernel_rfl
theorem u8_kind : Try.prog.underlying 5 = some (.int .u8) := Try.underlying5
theorem run_part_u8 (xs : Array Value) (i : Nat) (x : Int) (h : xs[i]? = some (.int .u8 x)) (w : World) : (part 5 xs i).run Try.prog w = .ok (.int .u8 x) w := by
  have u := u8_kind
  have a := Try.isAgg5
  have z := Try.sizeOf5
  unfold part
  go_simp
theorem run_items_u8 (xs : Array Value) (d : Nat) : ∀ (is : List Nat), (∀ i ∈ is, ∃ x, xs[i]? = some (.int .u8 x)) → ∀ w : World, (Op.eqItems (d + 1) 5 1 xs xs is).run Try.prog w = .ok true w
  | [], _, w => by simp [Op.eqItems]
  | i :: is, h, w => by
    obtain ⟨x, hx⟩ := h i (by simp)
    have hp := run_part_u8 xs (i * 1) x (by rw [Nat.mul_one]; exact hx)
    have he := fun w => run_equalIn_int (P := Try.prog) w d 5 .u8 .u8 x x u8_kind
    have hr := run_items_u8 xs d is (fun j hj => h j (by simp [hj])) w
    simp only [Op.eqItems, Sem.run_bind, hp, he, Result.andThen_ok]
    simpa using hr
theorem eqCls (l : List Int) (hl : l.length = 256) (w : World) :
    (binOp .neq 22 (.agg (l.map (Value.int .u8)).toArray) (.agg (l.map (Value.int .u8)).toArray)).run Try.prog w = .ok (.bool false) w := by
  have hu := Try.underlying22
  obtain ⟨i, hi⟩ : ∃ i, Try.prog.info? 5 = some i := ⟨_, rfl⟩
  have hc : Try.prog.cellsOf 5 = 1 := by kernel_rfl
  have h := run_items_u8 (l.map (Value.int .u8)).toArray 9998 (List.range 256) (fun i hi => by
    have : i < l.length := by rw [hl]; exact List.mem_range.1 hi
    exact ⟨l[i], by simp [this]⟩) w
  rw [run_neq_struct, show (10000 : Nat) = 9999 + 1 from rfl, run_equalIn_array (P := Try.prog) w 9999 (n := 256) _ _ hu hi, hc, h]
  rfl
theorem cls_range {cs : Array Value} {T : TabI} (hC : TabC cs T) {b : Nat} {W : World} (h : TabBox b cs W) : W.rangeAt b 0 (T.cls.map (Value.int .u8)) := fun j v hv => by
  rw [List.getElem?_map] at hv
  obtain ⟨x, hx, rfl⟩ := Option.map_eq_some_iff.1 hv
  rw [Nat.zero_add]
  exact h.cell1 (hC.cl j x hx)
theorem info_cls : (Try.prog.info? 22).map (·.size) = some 256 := by kernel_rfl
theorem nodes_same {l m : List NodeI} (h : l.map NodeI.L = m.map NodeI.L) {k : Nat} {n p : NodeI} (hn : l[k]? = some n) (hp : m[k]? = some p) : n.h = p.h ∧ n.nx = p.nx ∧ n.e = p.e := by
  have := congrArg (fun z => z[k]?) h
  simp only [List.getElem?_map, hn, hp, Option.map_some, Option.some.injEq] at this
  unfold NodeI.L at this
  simpa using this
theorem acts_same {l m : List ActI} (h : l.map ActI.L = m.map ActI.L) {k : Nat} {n p : ActI} (hn : l[k]? = some n) (hp : m[k]? = some p) : n.e = p.e ∧ n.d = p.d ∧ n.o.l.map TermI.L = p.o.l.map TermI.L := by
  have := congrArg (fun z => z[k]?) h
  simp only [List.getElem?_map, hn, hp, Option.map_some, Option.some.injEq] at this
  unfold ActI.L at this
  simp only [ActL.mk.injEq] at this
  exact this
theorem outs_same {l m : List OutI} (h : l.map OutI.L = m.map OutI.L) {k : Nat} {n p : OutI} (hn : l[k]? = some n) (hp : m[k]? = some p) : n.l.map TermI.L = p.l.map TermI.L := by
  have := congrArg (fun z => z[k]?) h
  simp only [List.getElem?_map, hn, hp, Option.map_some, Option.some.injEq] at this
  exact this
section
variable {w0 w : World} {F : World → Prop}
theorem box2 {W : World} {G : World → Prop} (h : Hid (St w0 W G)) (a b : List Value) :
    Hid (St w0 (((W.alloc (.cells a.toArray 47)).alloc (.cells b.toArray 47)).drewN 1) (fun V => BoxC (W.heap.size + 1) b V ∧ BoxC W.heap.size a V ∧ G V)) := by
  have h2 := St.box (St.box h a 47) b 47
  have hz : (W.alloc (.cells a.toArray 47)).heap.size = W.heap.size + 1 := by simp
  rw [hz] at h2
  exact St.hdrewN h2 1
set_option maxRecDepth 100000 in
set_option maxHeartbeats 16000000 in
theorem Same17_st (hK : Hid (St w0 w F)) (cs ds : Array Value) (T U : TabI) (hC : TabC cs T) (hD : TabC ds U) (ht : ∀ W, F W → TabW T W) (hu : ∀ W, F W → TabW U W) (he : T.L = U.L) :
    Calls Try.prog 15 #[.agg cs, .agg ds] w (RetV w0 (.bool true) F) := by
  have HT := Lib.hid ht
  have HU := Lib.hid hu
  have HK1 := St.tbox hK cs
  have HK := St.tbox HK1 ds
  have hz : (w.alloc (.cells cs 27)).heap.size = w.heap.size + 1 := by simp
  rw [hz] at HK
  obtain ⟨ec, en, ea, ee⟩ : T.cls = U.cls ∧ T.ns.map NodeI.L = U.ns.map NodeI.L ∧ T.acts.map ActI.L = U.acts.map ActI.L ∧ T.es.map OutI.L = U.es.map OutI.L := by
    unfold TabI.L at he
    simpa using he
  have HEN := Lib.hid en
  have HEA := Lib.hid ea
  have HEE := Lib.hid ee
  have ln : U.ns.length = T.ns.length := by have := congrArg List.length en; simpa using this.symm
  have la : U.acts.length = T.acts.length := by have := congrArg List.length ea; simpa using this.symm
  have le : U.es.length = T.es.length := by have := congrArg List.length ee; simpa using this.symm
  have HCR : Hid (∀ (b : Nat) (W : World), TabBox b cs W → W.rangeAt b 0 (T.cls.map (Value.int .u8))) := Lib.hid (fun _ _ h => cls_range hC h)
  have HDR : Hid (∀ (b : Nat) (W : World), TabBox b ds W → W.rangeAt b 0 (T.cls.map (Value.int .u8))) := Lib.hid (by rw [ec]; exact fun _ _ h => cls_range hD h)
  have hls : T.cls.length = 256 := hC.ln
  have HLS := Lib.hid hls
  have hne := eqCls T.cls hls
  have hg := guardCls
  have c1 := hC.c1
  have c2 := hC.c2
  have c3 := hC.c3
  have d1 := hD.c1
  have d2 := hD.c2
  have d3 := hD.c3
  rw [ln] at d1
  rw [la] at d2
  rw [le] at d3
  have hTn := (ht _ hK.out.now).nodes.ln
  have hTa := (ht _ hK.out.now).acts.ln
  have hTe := (ht _ hK.out.now).ends.ln
  have HLN := Lib.hid ln
  have HLA := Lib.hid la
  have HLE := Lib.hid le
  have hsc := hC.size
  have hsd := hD.size
  clear ht hu hz HK1 ln la le en ea ee ec hls he
  go_enter Try.func15, Try.ntmps15
  have p1 := HK.out.now.2.1.cell1 c1
  have p2 := HK.out.now.2.1.cell1 c2
  have p3 := HK.out.now.2.1.cell1 c3
  have q1 := HK.out.now.1.cell1 d1
  have q2 := HK.out.now.1.cell1 d2
  have q3 := HK.out.now.1.cell1 d3
  go_wp2_with (first
    | (refine wpList_load_mid rfl 22 _ rfl w.heap.size 0 rfl (T.cls.map (Value.int .u8)) _ (HCR.out _ _ HK.out.now.2.1) Try.underlying22 rfl (by rw [List.length_map, HLS.out]; exact info_cls) ?_)
    | (refine wpList_load_mid rfl 22 _ rfl (w.heap.size + 1) 0 rfl (T.cls.map (Value.int .u8)) _ (HDR.out _ _ HK.out.now.1) Try.underlying22 rfl (by rw [List.length_map, HLS.out]; exact info_cls) ?_))
  clear hne hg p1 p2 p3 q1 q2 q3
  go_loopw [5] (fun i wr => ∃ k : Nat, k ≤ T.ns.length ∧ i = .int .i64 k ∧ Hid (St w0 wr (fun W => TabBox (w.heap.size + 1) ds W ∧ TabBox w.heap.size cs W ∧ F W))) (fun i _ => T.ns.length - (intOf i).toNat)
  case atStart => exact ⟨0, Nat.zero_le _, rfl, HK⟩
  case round =>
  clear HK
  obtain ⟨k, hk, rfl, HK⟩ := hrel
  have p1 := HK.out.now.2.1.cell1 c1
  have q1 := HK.out.now.1.cell1 d1
  by_cases hlt : k < T.ns.length
  · obtain ⟨pb, po, p, hA, hx, hpw, x0, x1, x2⟩ := (HT.out _ HK.out.now.2.2).nodes.at_ hlt
    obtain ⟨qb, qo, q, hB, hy, hqw, y0, y1, y2⟩ := (HU.out _ HK.out.now.2.2).nodes.at_ (j := k) (by have := HLN.out; omega)
    obtain ⟨e1, e2, e3⟩ := nodes_same HEN.out hx hy
    have HKi := Lib.hid (HK.out.add (Below.refl _ _) (G := fun W => IntsAt p.na p.nx W ∧ IntsAt q.na p.nx W) (fun W hW => ⟨hpw.2.below hW, by rw [e2]; exact hqw.2.below hW⟩))
    have hln := hpw.2.ln
    rw [← e1] at y0
    rw [← e2] at y1
    rw [← e3] at y2
    obtain ⟨ph, pa, pc, pn, pe⟩ := p
    obtain ⟨qh, qa, qc, qn, qe⟩ := q
    simp only at x0 x1 x2 y0 y1 y2 HKi hln
    rw [hA] at p1 c1
    rw [hB] at q1 d1
    have l1 := lt_of_cell p1
    have l2 := lt_of_cell q1
    have l3 := lt_of_cell x0
    have l4 := lt_of_cell y0
    clear hx hy hpw hqw e1 e2 e3 hA hB
    go_upto_region 6 with fail
    go_cut [6, 7] (fun s6 s7 wq => ∃ b6 b7 : Nat, s6 = .pointer (some ⟨b6, 0, none⟩) ∧ s7 = .pointer (some ⟨b7, 0, none⟩) ∧ Hid (St w0 wq (fun V => BoxC b6 [.int .i64 ph, .slice pa pn.length pc, .int .i64 pe] V ∧ BoxC b7 [.int .i64 ph, .slice qa pn.length qc, .int .i64 pe] V ∧ (IntsAt pa pn V ∧ IntsAt qa pn V) ∧ TabBox (w.heap.size + 1) ds V ∧ TabBox w.heap.size cs V ∧ F V)))
    case first =>
      go_region
      · go_wp2_with fail
        go_meet
        exact ⟨_, _, rfl, rfl, Lib.hid ((box2 HKi [.int .i64 ph, .slice pa pn.length pc, .int .i64 pe] [.int .i64 ph, .slice qa pn.length qc, .int .i64 pe]).out.weaken fun _ h => ⟨h.2.1, h.1, h.2.2⟩)⟩
      · go_wp2_with fail
        go_meet
        exact ⟨_, _, rfl, rfl, Lib.hid ((box2 HKi [.int .i64 ph, .slice qa pn.length qc, .int .i64 pe] [.int .i64 ph, .slice pa pn.length pc, .int .i64 pe]).out.weaken fun _ h => ⟨h.1, h.2.1, h.2.2⟩)⟩
    case rest =>
    obtain ⟨b6, b7, rfl, rfl, HK⟩ := hcut
    obtain ⟨x0, x1, x2⟩ := HK.out.now.1.c3
    obtain ⟨y0, y1, y2⟩ := HK.out.now.2.1.c3
    go_wp2_with fail
    go_loopw [8] (fun i wr2 => ∃ m : Nat, m ≤ pn.length ∧ i = .int .i64 m ∧ Hid (St w0 wr2 (fun V => BoxC b6 [.int .i64 ph, .slice pa pn.length pc, .int .i64 pe] V ∧ BoxC b7 [.int .i64 ph, .slice qa pn.length qc, .int .i64 pe] V ∧ (IntsAt pa pn V ∧ IntsAt qa pn V) ∧ TabBox (w.heap.size + 1) ds V ∧ TabBox w.heap.size cs V ∧ F V))) (fun i _ => pn.length - (intOf i).toNat)
    case atStart => exact ⟨0, Nat.zero_le _, rfl, HK⟩
    case round =>
    clear HK x0 x1 x2 y0 y1 y2
    obtain ⟨m, hm, rfl, HK⟩ := hrel
    obtain ⟨x0, x1, x2⟩ := HK.out.now.1.c3
    obtain ⟨y0, y1, y2⟩ := HK.out.now.2.1.c3
    by_cases hlm : m < pn.length
    · obtain ⟨ub, uo, u, rfl, hu, _, hu0⟩ := HK.out.now.2.2.1.1.at_ hlm
      obtain ⟨vb, vo, v, rfl, hv, _, hv0⟩ := HK.out.now.2.2.1.2.at_ hlm
      obtain rfl : u = v := by rw [hu] at hv; exact Option.some.inj hv
      clear hu hv x0 x2 y0 y2
      go_wp2_with (go_quiet (fail))
      exact ⟨⟨m + 1, by omega, by go_num, St.hdrewN HK _⟩, by simp [intOf]; omega⟩
    · obtain rfl : m = pn.length := by omega
      have hd : decide (pn.length < pn.length) = false := by simp
      go_wp2_with fail
      exact ⟨⟨k + 1, by omega, by go_num, Lib.hid (HK.out.weaken fun _ h => h.2.2.2)⟩, by simp [intOf]; omega⟩
  · obtain rfl : k = T.ns.length := by omega
    have hd : decide (T.ns.length < T.ns.length) = false := by simp
    go_wp2_with fail
    clear p1 q1
    go_loopw [9] (fun i wr => ∃ k : Nat, k ≤ T.acts.length ∧ i = .int .i64 k ∧ Hid (St w0 wr (fun W => TabBox (w.heap.size + 1) ds W ∧ TabBox w.heap.size cs W ∧ F W))) (fun i _ => T.acts.length - (intOf i).toNat)
    case atStart => exact ⟨0, Nat.zero_le _, rfl, HK⟩
    case round =>
    clear HK hd
    obtain ⟨k, hk, rfl, HK⟩ := hrel
    have p2 := HK.out.now.2.1.cell1 c2
    by_cases hlt : k < T.acts.length
    · obtain ⟨pb, po, p, hA, hx, hpw, x0, x1, x2⟩ := (HT.out _ HK.out.now.2.2).acts.at_ hlt
      obtain ⟨qb, qo, q, hB, hy, hqw, y0, y1, y2⟩ := (HU.out _ HK.out.now.2.2).acts.at_ (j := k) (by have := HLA.out; omega)
      obtain ⟨e1, e2, e3⟩ := acts_same HEA.out hx hy
      rw [← e1] at y0
      rw [← e2] at y1
      have HE3 := Lib.hid e3
      have HKi := Lib.hid (HK.out.add (Below.refl _ _) (G := fun W => (W.cell? ⟨pb, po + k * 3, none⟩ = some (.int .i64 p.e) ∧ W.cell? ⟨pb, po + k * 3 + 1, none⟩ = some (.int .i64 p.d) ∧ W.cell? ⟨pb, po + k * 3 + 2, none⟩ = some (.slice p.o.a p.o.l.length p.o.c) ∧
          W.cell? ⟨qb, qo + k * 3, none⟩ = some (.int .i64 p.e) ∧ W.cell? ⟨qb, qo + k * 3 + 1, none⟩ = some (.int .i64 p.d) ∧ W.cell? ⟨qb, qo + k * 3 + 2, none⟩ = some (.slice q.o.a q.o.l.length q.o.c)) ∧ TermsAt p.o.a p.o.l W ∧ TermsAt q.o.a q.o.l W) (fun W hW => ⟨⟨(hW.cell (p := ⟨pb, po + k * 3, none⟩) (lt_of_cell x0)).trans x0, (hW.cell (p := ⟨pb, po + k * 3 + 1, none⟩) (lt_of_cell x1)).trans x1, (hW.cell (p := ⟨pb, po + k * 3 + 2, none⟩) (lt_of_cell x2)).trans x2,
            (hW.cell (p := ⟨qb, qo + k * 3, none⟩) (lt_of_cell y0)).trans y0, (hW.cell (p := ⟨qb, qo + k * 3 + 1, none⟩) (lt_of_cell y1)).trans y1, (hW.cell (p := ⟨qb, qo + k * 3 + 2, none⟩) (lt_of_cell y2)).trans y2⟩, OutW.stays _ _ _ hpw.2 hW, OutW.stays _ _ _ hqw.2 hW⟩))
      obtain ⟨pe, pd, ⟨pa, pc, pl⟩⟩ := p
      obtain ⟨qe, qd, ⟨qa, qc, ql⟩⟩ := q
      simp only at HKi HE3
      have g2 := c2
      have j2 := d2
      rw [hA] at g2 p2
      rw [hB] at j2
      clear hx hy hpw hqw e1 e2 e3 hA hB x0 x1 x2 y0 y1 y2
      go_wp2_with fail
      have HK1 := St.hdrewN HKi 1
      go_region_held3 (fun W => W.cell? ⟨w.heap.size, 257, none⟩ = some (.slice (some ⟨pb, po, none⟩) T.acts.length T.ac) ∧ W.cell? ⟨w.heap.size + 1, 257, none⟩ = some (.slice (some ⟨qb, qo, none⟩) T.acts.length U.ac) ∧ W.cell? ⟨pb, po + k * 3, none⟩ = some (.int .i64 pe) ∧ W.cell? ⟨pb, po + k * 3 + 1, none⟩ = some (.int .i64 pd) ∧ W.cell? ⟨pb, po + k * 3 + 2, none⟩ = some (.slice pa pl.length pc) ∧
          W.cell? ⟨qb, qo + k * 3, none⟩ = some (.int .i64 pe) ∧ W.cell? ⟨qb, qo + k * 3 + 1, none⟩ = some (.int .i64 pd) ∧ W.cell? ⟨qb, qo + k * 3 + 2, none⟩ = some (.slice qa ql.length qc))
        (first | exact ⟨HK1.out.now.2.2.1.cell1 g2, HK1.out.now.2.1.cell1 j2, HK1.out.now.1.1⟩ | go_keep)
        ((go_at_call 28; refine (sameTerms_st HK1 (fun _ h => h.1.2.1) (fun _ h => h.1.2.2) HE3.out pc qc).mono ?_; rintro e5 w5 ⟨rfl, HK1⟩))
      go_wp2_with fail
      exact ⟨⟨k + 1, by omega, by go_num, Lib.hid (HK1.out.weaken fun _ h => h.2)⟩, by simp [intOf]; omega⟩
    · obtain rfl : k = T.acts.length := by omega
      have hd : decide (T.acts.length < T.acts.length) = false := by simp
      go_wp2_with fail
      clear p2
      go_loopw [10] (fun i wr => ∃ k : Nat, k ≤ T.es.length ∧ i = .int .i64 k ∧ Hid (St w0 wr (fun W => TabBox (w.heap.size + 1) ds W ∧ TabBox w.heap.size cs W ∧ F W))) (fun i _ => T.es.length - (intOf i).toNat)
      case atStart => exact ⟨0, Nat.zero_le _, rfl, HK⟩
      case round =>
      clear HK hd
      obtain ⟨k, hk, rfl, HK⟩ := hrel
      have p3 := HK.out.now.2.1.cell1 c3
      by_cases hlt : k < T.es.length
      · obtain ⟨pb, po, p, hA, hx, hpw, x0⟩ := (HT.out _ HK.out.now.2.2).ends.at_ hlt
        obtain ⟨qb, qo, q, hB, hy, hqw, y0⟩ := (HU.out _ HK.out.now.2.2).ends.at_ (j := k) (by have := HLE.out; omega)
        have HE3 := Lib.hid (outs_same HEE.out hx hy)
        have HKi := Lib.hid (HK.out.add (Below.refl _ _) (G := fun W => (W.cell? ⟨pb, po + k, none⟩ = some (.slice p.a p.l.length p.c) ∧ W.cell? ⟨qb, qo + k, none⟩ = some (.slice q.a q.l.length q.c)) ∧ TermsAt p.a p.l W ∧ TermsAt q.a q.l W)
          (fun W hW => ⟨⟨(hW.cell (p := ⟨pb, po + k, none⟩) (lt_of_cell x0)).trans x0, (hW.cell (p := ⟨qb, qo + k, none⟩) (lt_of_cell y0)).trans y0⟩, OutW.stays _ _ _ hpw hW, OutW.stays _ _ _ hqw hW⟩))
        obtain ⟨pa, pc, pl⟩ := p
        obtain ⟨qa, qc, ql⟩ := q
        simp only at HKi HE3
        have g3 := c3
        have j3 := d3
        rw [hA] at g3 p3
        rw [hB] at j3
        clear hx hy hpw hqw hA hB x0 y0
        go_wp2_with fail
        have HK1 := St.hdrewN HKi 1
        go_region_held3 (fun W => W.cell? ⟨w.heap.size, 258, none⟩ = some (.slice (some ⟨pb, po, none⟩) T.es.length T.ec) ∧ W.cell? ⟨w.heap.size + 1, 258, none⟩ = some (.slice (some ⟨qb, qo, none⟩) T.es.length U.ec) ∧ W.cell? ⟨pb, po + k, none⟩ = some (.slice pa pl.length pc) ∧ W.cell? ⟨qb, qo + k, none⟩ = some (.slice qa ql.length qc))
          (first | exact ⟨HK1.out.now.2.2.1.cell1 g3, HK1.out.now.2.1.cell1 j3, HK1.out.now.1.1⟩ | go_keep)
          ((go_at_call 28; refine (sameTerms_st HK1 (fun _ h => h.1.2.1) (fun _ h => h.1.2.2) HE3.out pc qc).mono ?_; rintro e5 w5 ⟨rfl, HK1⟩))
        go_wp2_with fail
        exact ⟨⟨k + 1, by omega, by go_num, Lib.hid (HK1.out.weaken fun _ h => h.2)⟩, by simp [intOf]; omega⟩
      · obtain rfl : k = T.es.length := by omega
        have hd : decide (T.es.length < T.es.length) = false := by simp
        go_wp2_with fail
        go_ret
        exact ⟨rfl, Lib.hid (HK.out.weaken fun _ h => h.2.2)⟩
end
end Go.Proofs.Yticfbbigljgjdaa
