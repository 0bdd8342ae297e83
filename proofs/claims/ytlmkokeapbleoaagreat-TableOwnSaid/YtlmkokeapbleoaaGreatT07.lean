/- Contract of term.together: the values of some parts of one symbol, added, of all symbols of a set. Condition: the parts are right, the set is plain, of symbols. Contract of term.plus: all sums of a number of one set and one of another. Condition: both lists are plain, the sums are not great. A region that draws its order and whose last operation waits for all the others: what must hold for its loads need not hold behind that last one. Condition: the last operation waits for each one that is taken first. Contract of term.values. Condition: the parts and the sets are known, the parts are right, the sets are plain and have something. Contract of term.inner. Condition: the parts and the guards are known, the parts are right. -/
import Derived.Test.YtlmkokeapbleoaaGreatT06
import Derived.Test.YtlmkokeapbleoaaGreatT05
set_option maxRecDepth 100000
set_option maxHeartbeats 64000000
set_option linter.unusedVariables false
set_option linter.unusedSimpArgs false
section
namespace Go.Proofs.YtlmkokeapbleoaaGreat
open Go.RowKit Go.Shelf
attribute [local go_sem] Oper.semAt_some
theorem addP_next {l : List PartL} {j : Nat} {p : PartL} (h : l[j]? = some p) (x : Int) : addP (l.take (j + 1)) x = addP (l.take j) x + vP p x := by
  unfold addP
  rw [take_snoc? h, List.map_append, List.sum_append]
  simp
theorem SRow.addr {W : World} {base : Nat} {A : Option Addr} {c : Nat} {m : List Sp} {q : Sp} (h : SRow W base A c (m ++ [q])) : ∃ g, A = some ⟨g, 0, none⟩ ∧ base ≤ g ∧ g < W.heap.size := by
  rcases h.2 with ⟨e, h0⟩ | ⟨g, cap, cur, e, h1, h2, _⟩
  · simp at h0
  · injection e with e1
    exact ⟨g, e1, h1, (Array.getElem?_eq_some_iff.1 h2).1⟩
section
variable {w0 w : World} {F : World → Prop} {A B : Option Addr} {l : List PartL} {s r : List Sp}
theorem together_st (hK : Hid (St w0 w F)) (hp : ∀ W, F W → PartsAt A l W) (hs : ∀ W, F W → Lst B s W) (c cs : Nat) (hb : Hid (∀ p ∈ l, bitsB p.2.1 p.2.2.1 p.2.2.2 = true)) (hl0 : l ≠ []) (hl4 : l.length ≤ 4) (hps : Hid (Plain s)) (hsr : Hid (∀ x, Mem s x → 0 ≤ x ∧ x ≤ 1114111)) (hr : Hid (Rep r (TogS l s))) :
    Calls Tryz.prog 247 #[.slice A l.length c, .slice B s.length cs] w (RetL w0 r F) := by
  have HP := Lib.hid hp
  have HS := Lib.hid hs
  have HK := St.box hK [.slice A l.length c] 66
  clear hp hs
  refine (callsIn_wide (n := 8)).1 ?_
  refine callsIn_of_wp_marks Tryz.func247 rfl trivial ?_ rfl
  refine wpIn_wide.2 ?_
  simp only [Tryz.ntmps247, List.size_toArray, List.length_cons, List.length_nil, Nat.reduceAdd, Nat.reduceSub, Array.replicate_succ, Array.replicate_zero, List.push_toArray, List.append_toArray, List.nil_append, List.cons_append]
  obtain ⟨w5, hw5⟩ : ∃ w5, w.alloc (.cells [.slice A l.length c].toArray 66) = w5 := ⟨_, rfl⟩
  have hs5 : w5.heap.size = w.heap.size + 1 := by rw [← hw5]; simp
  rw [hw5] at HK
  have HW := Lib.hid hw5
  clear hw5
  go_upto_region 1 with fail
  rw [HW.out]
  have hc0 := HK.out.now.1 0 _ rfl
  by_cases h1 : l.length = 1
  · obtain ⟨p, rfl⟩ := List.length_eq_one_iff.1 h1
    obtain ⟨pb, off, q, hA, hq, hw, hd0, hd1, hd2, hd3⟩ := (HP.out _ HK.out.now.2).at_ (j := 0) (by simp)
    simp only [List.getElem?_cons_zero, Option.some.injEq] at hq
    subst hq
    subst hA
    obtain ⟨x1, x2, x3, x4⟩ := p
    simp only [Nat.zero_mul, Nat.add_zero] at hd0 hd1 hd2 hd3
    have HI : Hid (Rep r (ImgS x2 x3 x4 s)) := Lib.hid (hr.out.congr fun v => togS_one (hb.out _ (List.mem_singleton.2 rfl)) hsr.out v)
    clear hw
    simp only [List.length_cons, List.length_nil, Nat.zero_add] at hc0 ⊢
    go_wp2_with fail
    refine (Image_st HK (fun _ h => HS.out _ h.2) cs x1 x2 x3 x4 HI).mono ?_
    rintro e w3 ⟨A3, c3, rfl, HK3⟩
    go_wp2_with fail
    refine leaveM_nil (.slice A3 r.length c3) (by simp [results, Tryz.f247, go_sem]) ?_
    exact ⟨_, _, rfl, Lib.hid (HK3.out.weaken fun W h => ⟨h.1, h.2.2⟩)⟩
  · have hne : ((l.length : Int) == 1) = false := by
      rw [beq_eq_false_iff_ne]; omega
    have HSF : Hid (Rep s (Mem s)) := Lib.hid (Rep.self hps.out)
    have HW5 := Lib.hid ((Below.refl w5.heap.size w5).alloc (Nat.le_refl _) (.cells #[.slice none 0 0] 103))
    have HKA := Lib.hid (HK.out.add HW5.out (G := fun W => True) (fun _ _ => trivial))
    have HSA := Lib.hid (HS.out _ HKA.out.now.2.2)
    have HE := Lib.hid (Each_any B s.length cs s s (w5.alloc (.cells #[.slice none 0 0] 103)) HSA.out.sp HSA.out.wd (by have := HSA.out.len; omega) HSF.out)
    have hnl : (nums s).length ≤ 2147483650 := by have h1 := nums_length hps.out; have h2 := hps.out.cnt_bd; omega
    have HS5 := Lib.hid hs5
    clear h1
    go_wp2_with fail
    refine HE.out.mono ?_
    rintro e w6 ⟨B6, g, c6, rfl, hbd, hcB, hsp, hb6⟩
    obtain ⟨hb56, hbr0, hsz6, hsq⟩ := each_box hps.out hbd hcB hsp hb6
    have HB6 := Lib.hid hb56
    have HB0 := Lib.hid hbr0
    have HSQ := Lib.hid hsq
    rw [hs5] at HB0 HSQ
    clear hbd hcB hsp hb6 HE hb56 hbr0 hsq hc0
    go_wp2_with fail
    refine wp_rangeFunc (gf := 249) (lb := #[.pointer (some ⟨B6, 0, none⟩)]) rfl (enters_of Tryz.func249 (by kernel_rfl) rfl) HSQ.out kpB_t (kpB_b (by omega)) (fun _ => rfl)
      (fun pre W => BoxRow (w.heap.size + 1) (w.heap.size + 1 + 1) (rowSp (pre.map (addP l))) W ∧ (pre.length ≤ (nums s).length ∧ Below w5.heap.size w5 W))
      (fun _ _ _ => False)
      (OwnFrom.and (BoxRow.own _ _ _ _) (OwnFrom.and (ownFrom_pure _ _) (ownFrom_below (Nat.le_refl _) (by omega))))
      (fun _ _ _ _ _ h _ _ => h)
      ⟨HB0.out, Nat.zero_le _, HB6.out⟩
      ?act ?assign ?body ?done ?stop
    case assign =>
      intro l x W K hK
      gi_wp2
      exact hK
    case body =>
      rintro l1 pre x W ⟨hbr, hlen1, hbW⟩ hlen
      obtain ⟨Ab, cb, hv, hf, hrow⟩ := hbr
      have HKW := Lib.hid (HK.out.step hbW)
      have hc0 := HKW.out.now.1 0 _ rfl
      have HBW := Lib.hid hbW
      obtain ⟨o, ho⟩ : ∃ o, rowSp (pre.map (addP l)) = o := ⟨_, rfl⟩
      have hok := rowSp_ok (pre.map (addP l)) 268435456 (fun n hn => by
        obtain ⟨y, _, rfl⟩ := List.mem_map.1 hn
        have := addP_bd l y
        omega)
      rw [ho] at hv hrow hok
      have hol : o.length < 1099511627776 := by have := hok.1; rw [List.length_map] at this; omega
      have HOE := Lib.hid ho
      have HOK := Lib.hid hok.2.1
      have HROW := Lib.hid hrow
      have HV := Lib.hid (And.intro hv hf)
      have HLN := Lib.hid hlen
      clear ho hrow hbW hok hf hv hlen1 hlen
      gi_wp2
      gi_loopw [7, 26] (fun n i wr => ∃ j : Nat, j ≤ l.length ∧ i = .int .i64 j ∧ n = .int .i64 (addP (l.take j) x) ∧ Hid (Below W.heap.size W wr)) (fun _ i _ => l.length - (intOf i).toNat)
      case atStart => exact ⟨0, Nat.zero_le _, rfl, by simp [addP], Lib.hid (Below.refl _ W)⟩
      case round =>
      obtain ⟨j, hj, rfl, rfl, HBR⟩ := hrel
      by_cases hjl : j < l.length
      · obtain ⟨xb, xo, p, hqa, hpx, _, hp1, hp2, hp3, hp4⟩ := (HP.out _ (HKW.out.step HBR.out).now.2).at_ hjl
        obtain ⟨pa, pd, pt, pu⟩ := p
        simp only at hp1 hp2 hp3 hp4
        obtain ⟨v, hv⟩ : ∃ v, vNum pd pt pu x = v := ⟨_, rfl⟩
        obtain ⟨ok, hok⟩ : ∃ v, vOk pd pt pu x = v := ⟨_, rfl⟩
        have hv26 := vNum_bd pd pt pu x
        rw [hv] at hv26
        have hSN : addP (l.take (j + 1)) x = addP (l.take j) x + v := by rw [addP_next hpx, ← hv]; rfl
        have hs0 := addP_bd (l.take j) x
        have hlt : ((l.take j).length : Int) ≤ 4 := by rw [List.length_take]; omega
        obtain ⟨z, hz⟩ : ∃ z, addP (l.take j) x = z := ⟨_, rfl⟩
        rw [hz] at hs0 hSN ⊢
        have hji : (j : Int) < (l.length : Int) := by omega
        have HVN := Lib.hid hv
        have HVO := Lib.hid hok
        have HSN := Lib.hid hSN
        have hsb : 0 ≤ z ∧ z ≤ 536870912 := by omega
        subst hqa
        clear hpx hv hok hSN hz hs0 hlt
        gi_wp2_with (refine ⟨trivial, ?_⟩; gi_at_call 184; refine (CallsIn.inRound l1 (callsIn_wide.2 (Value_st (F := fun _ => True) (Lib.hid (St.start fun _ _ => trivial)) pa pd pt pu x HVN.out HVO.out))).mono ?_; rintro e w7 ⟨rfl, HK7⟩)
        exact ⟨⟨j + 1, by omega, by go_num, by rw [HSN.out], Lib.hid (below_to HBR.out (below_to ((Below.refl _ wr).alloc (Nat.le_refl _) _) HK7.out.2))⟩, by simp [intOf]; omega⟩
      · obtain rfl : j = l.length := by omega
        rw [List.take_length]
        have hd : decide ((l.length : Int) < (l.length : Int)) = false := by simp
        obtain ⟨z, hz⟩ : ∃ z, addP l x = z := ⟨_, rfl⟩
        have hs0 := addP_bd l x
        rw [hz] at hs0 ⊢
        have hzb : 0 ≤ z ∧ z ≤ 536870912 := by omega
        have HZ := Lib.hid hz
        have hbW := lt_of_cell HV.out.1
        have hv := (HBR.out.cell hbW).trans HV.out.1
        have hf := (HBR.out.frozen hbW).trans HV.out.2
        have hbr := lt_of_cell hv
        have HVR := Lib.hid (And.intro hv hf)
        have HR2 := Lib.hid (HROW.out.below HBR.out)
        have HNX : Hid (rowSp ((pre ++ [x]).map (addP l)) = pushR o z) := Lib.hid (by rw [List.map_append, List.map_cons, List.map_nil, rowSp_snoc, HOE.out, HZ.out])
        have hsz : w5.heap.size ≤ wr.heap.size := by have h1 := HBW.out.size; have h2 := HBR.out.size; omega
        have hlen1 : (pre ++ [x]).length ≤ (nums s).length := by have := HLN.out; simp; omega
        have HLEN := Lib.hid hlen1
        clear hz hs0 hjl hlen1
        rcases snoc_cases o with rfl | ⟨m, q, rfl⟩
        · have HPN : Hid (pushR [] z = [(z, z)]) := Lib.hid (pushR_nil z)
          have HLEN1 : Hid (([] : List Sp).length = 0) := Lib.hid rfl
          gi_wp2_with (
            gi_at_builtin
            refine wpListIn_pushS rfl _ _ rfl HR2.out (by first | rfl | (rw [HLEN1.out]; rfl)) (by first | rfl | (simp; rfl) | simp) (by first | (rw [HLEN1.out]; omega) | simp) (by omega) ?_
            intro l2 A2 c2 w8 HL2 HO2 HG2 HAT2
            have HPU := Lib.hid (BoxRow.push (lo := w.heap.size + 1) (hi := w.heap.size + 1 + 1) (Nat.le_refl _) (by omega) (Nat.le_refl _) HV.out.1 HV.out.2 HROW.out (w0 := wr) (ob := .cells #[.int .i64 z, .int .i64 z] 129) HBR.out rfl HO2.out HG2.out HAT2.out)
            have hbx8 := HG2.out.cell (cellAlloc _ hv) (fun e => by
              have h2 : w.heap.size + 1 + 1 ≤ w.heap.size + 1 := (HR2.out.lt _ e.symm).1
              omega)
            have hbf8 : w8.frozen? ⟨w.heap.size + 1, 0, none⟩ = false := by
              have := HPU.out.2.2.1
              obtain ⟨A8, c8, q1, q2, q3⟩ := this
              rwa [World.frozen?_setCell] at q2)
          obtain ⟨q1, q2, q3, q4⟩ := HPU.out
          have e : l2 = rowSp ((pre ++ [x]).map (addP l)) := by rw [HL2.out, HNX.out, HPN.out]; try rfl
          refine ⟨q1, q2, ?_, HLEN.out, HBW.out.trans (q4.mono (by have := HS5.out; omega))⟩
          show BoxRow _ _ (rowSp ((pre ++ [x]).map (addP l))) _
          rw [← e]; exact q3
        · obtain ⟨q1, q2⟩ := q
          have hqb := HOK.out (q1, q2) (by simp)
          simp only at hqb
          obtain ⟨g2, rfl, hg2b, hg2⟩ := HR2.out.addr
          have hq := (spanCells_at (m ++ [(q1, q2)]) m.length (q1, q2) (by simp)).2
          have hd3 : wr.cell? ⟨g2, m.length * 2 + 1, none⟩ = some (.int .i64 q2) := by rw [HR2.out.cellAt _ (by simp; omega)]; exact hq
          have HLEN1 : Hid ((m ++ [(q1, q2)]).length = m.length + 1) := by unfold Hid; simp
          rw [HLEN1.out] at hv
          have hol2 : m.length + 1 < 1099511627776 := by rw [← HLEN1.out]; exact hol
          clear hq hol
          by_cases hjn : q2 = z - 1
          · have HPN : Hid (pushR (m ++ [(q1, q2)]) z = m ++ [(q1, z)]) := Lib.hid (pushR_join m q1 q2 z hjn)
            have hqe : (q2 == z - 1) = true := by simpa using hjn
            have hqf := HR2.out.frozenAt (m.length * 2 + 1)
            obtain ⟨k1, k2, k3, k4⟩ := BoxRow.store (lo := w.heap.size + 1) (hi := w.heap.size + 1 + 1) (n := z) (Nat.le_refl _) (by omega) (Nat.le_refl _) HVR.out.1 HVR.out.2 HR2.out rfl
            have HK1 := Lib.hid k1
            have HK2 := Lib.hid k2
            have HK3 := Lib.hid k3
            have HK4 := Lib.hid k4
            clear k1 k2 k3 k4
            gi_wp2
            refine ⟨(keeps_below HBR.out).trans HK1.out, (KpB.below HBR.out (Nat.le_refl _) hbW).trans HK2.out, ?_, HLEN.out, (HBW.out.trans (HBR.out.mono HBW.out.size)).trans (HK4.out.mono (by have := HS5.out; omega))⟩
            show BoxRow _ _ (rowSp ((pre ++ [x]).map (addP l))) _
            rw [HNX.out, HPN.out]; exact HK3.out
          · have HPN : Hid (pushR (m ++ [(q1, q2)]) z = m ++ [(q1, q2)] ++ [(z, z)]) := Lib.hid (pushR_new m q1 q2 z hjn)
            have hqe : (q2 == z - 1) = false := by simpa using hjn
            gi_wp2_with (
              gi_at_builtin
              refine wpListIn_pushS rfl _ _ rfl HR2.out (by first | rfl | (rw [HLEN1.out]; rfl)) (by first | rfl | (simp; rfl) | simp) (by first | (rw [HLEN1.out]; omega) | simp) (by omega) ?_
              intro l2 A2 c2 w8 HL2 HO2 HG2 HAT2
              have HPU := Lib.hid (BoxRow.push (lo := w.heap.size + 1) (hi := w.heap.size + 1 + 1) (Nat.le_refl _) (by omega) (Nat.le_refl _) HV.out.1 HV.out.2 HROW.out (w0 := wr) (ob := .cells #[.int .i64 z, .int .i64 z] 129) HBR.out rfl HO2.out HG2.out HAT2.out)
              have hbx8 := HG2.out.cell (cellAlloc _ hv) (fun e => by
                have h2 : w.heap.size + 1 + 1 ≤ w.heap.size + 1 := (HR2.out.lt _ e.symm).1
                omega)
              have hbf8 : w8.frozen? ⟨w.heap.size + 1, 0, none⟩ = false := by
                have := HPU.out.2.2.1
                obtain ⟨A8, c8, q1, q2, q3⟩ := this
                rwa [World.frozen?_setCell] at q2)
            obtain ⟨q1, q2, q3, q4⟩ := HPU.out
            have e : l2 = rowSp ((pre ++ [x]).map (addP l)) := by rw [HL2.out, HNX.out, HPN.out]; try rfl
            refine ⟨q1, q2, ?_, HLEN.out, HBW.out.trans (q4.mono (by have := HS5.out; omega))⟩
            show BoxRow _ _ (rowSp ((pre ++ [x]).map (addP l))) _
            rw [← e]; exact q3
    case done =>
      rintro D' xs W hD' rfl ⟨hbr, hlen1, hbW⟩ hKD
      obtain ⟨Ab, cb, hv, hf, hrow⟩ := hbr
      have hok := rowSp_ok ((nums s).map (addP l)) 268435456 (fun n hn => by
        obtain ⟨y, _, rfl⟩ := List.mem_map.1 hn
        have := addP_bd l y
        omega)
      obtain ⟨lu, hlu⟩ : ∃ o, rowSp ((nums s).map (addP l)) = o := ⟨_, rfl⟩
      rw [hlu] at hv hrow hok
      have HIN : Hid (∀ y, Mem lu y ↔ TogS l s y) := by
        intro y
        have h1 : InS lu y ↔ TogS l s y := by
          rw [hok.2.2 y, List.mem_map]
          unfold TogS
          constructor
          · rintro ⟨x, hx, e⟩; exact ⟨x, (hps.out.mem x).2 ((nums_mem s x).1 hx), e⟩
          · rintro ⟨x, hx, e⟩; exact ⟨x, (nums_mem s x).2 ((hps.out.mem x).1 hx), e⟩
        unfold Mem
        rw [h1]
        refine ⟨fun h => h.2.2, fun h => ?_⟩
        have := togS_bd hl4 h
        exact ⟨by omega, by omega, h⟩
      have hll : lu.length < 137438953472 := by have := hok.1; rw [List.length_map] at this; omega
      have hwu : SpW lu := fun p hp => by have := hok.2.1 p hp; omega
      have hDW : D' < W.heap.size := (Array.getElem?_eq_some_iff.1 hKD).1
      obtain ⟨t, Rs⟩ := rep_norm lu
      have HK7 := Lib.hid ((HK.out.step hbW).add (Below.refl _ _) (G := fun W' => Lst Ab lu W' ∧ Below w5.heap.size w5 W' ∧ W'.heap[D']? = some (.deferred (some []))) (fun W' hW' => ⟨⟨hrow.spans.below hW', hwu, hll⟩, hbW.trans (hW'.mono hbW.size), (hW'.block D' hDW).trans hKD⟩))
      have hlt := lt_of_cell hv
      clear hlu hKD hbW hrow hDW hok
      go_wp2_with fail
      refine (Norm_st HK7 (fun _ h => h.1.1) _ Rs).mono ?_
      rintro e w8 ⟨A8, c8, rfl, HK8⟩
      go_wp2_with fail
      have hn8 := HK8.out.now
      refine leaveM_mark (.slice A8 t.length c8) hn8.2.1.2.2 (fun w' => by simp [results, Tryz.f247, go_sem]) ?_
      obtain rfl := Rep.unique (Rs.out.congr fun y => HIN.out y) hr.out (fun _ => Iff.rfl)
      exact ⟨_, _, rfl, Lib.hid ((HK.out.mark hn8.2.1.2.1 hn8.1 (by omega) hn8.2.1.2.2).weaken fun W h => ⟨h.1, h.2.2⟩)⟩
    case stop =>
      rintro D cd pre W hD hpre hF
      exact hF.elim
end
end Go.Proofs.YtlmkokeapbleoaaGreat
end
section
namespace Go.Proofs.YtlmkokeapbleoaaGreat
open Go.RowKit Go.Shelf
structure PlW (w3 : World) (bx : Nat) (x1 x2 : Int) (o : List Sp) (A : Option Addr) (c : Nat) (W : World) : Prop where
  row : SRow W w3.heap.size A c o
  bel : Below w3.heap.size w3 W
  c1 : W.cell? ⟨bx, 0, none⟩ = some (.int .i64 x1)
  c2 : W.cell? ⟨bx, 1, none⟩ = some (.int .i64 x2)
  ne : Value.ownBlock (.slice A o.length c) ≠ some bx
theorem PlW.start {w3 W : World} {x1 x2 : Int} {o : List Sp} {A : Option Addr} {c : Nat} (h : SRow W w3.heap.size A c o) (hb : Below w3.heap.size w3 W) : PlW w3 W.heap.size x1 x2 o A c (W.alloc (.cells #[.int .i64 x1, .int .i64 x2] 129)) := by
  have hbk := heap_alloc_new W (.cells #[.int .i64 x1, .int .i64 x2] 129)
  refine ⟨h.alloc _, hb.alloc hb.size _, ?_, ?_, fun e => ?_⟩
  · simp only [World.cell?, hbk]; rfl
  · simp only [World.cell?, hbk]; rfl
  · have := (h.lt _ e).2
    omega
theorem PlW.round {w3 W : World} {bx : Nat} {x1 x2 : Int} {o : List Sp} {A : Option Addr} {c : Nat} (h : PlW w3 bx x1 x2 o A c W) (ob : Obj) : PlW w3 bx x1 x2 o A c (W.alloc ob) :=
  ⟨h.row.alloc _, h.bel.alloc h.bel.size _, cellAlloc _ h.c1, cellAlloc _ h.c2, h.ne⟩
theorem PlW.push {w3 W W' : World} {bx : Nat} {x1 x2 : Int} {ob : Obj} {o o' : List Sp} {A A' : Option Addr} {c c' : Nat} (h : PlW w3 bx x1 x2 o A c W) (hO : SRow W' w3.heap.size A' c' o') (hG : (W.alloc ob).grownBy W' (Value.ownBlock (.slice A o.length c)))
    (hA : Value.ownBlock (.slice A' o'.length c') = Value.ownBlock (.slice A o.length c) ∨ Value.ownBlock (.slice A' o'.length c') = some (W.heap.size + 1)) : PlW w3 bx x1 x2 o' A' c' W' := by
  have hbx := lt_of_cell h.c1
  refine ⟨hO, SRow.pushed h.bel h.row (Nat.le_refl _) h.bel.size hG, hG.cell (cellAlloc _ h.c1) (fun e => h.ne e.symm), hG.cell (cellAlloc _ h.c2) (fun e => h.ne e.symm), fun e => ?_⟩
  rcases hA with g | g
  · exact h.ne (g ▸ e)
  · rw [g] at e; injection e with e; omega
structure PlI (a b : List Sp) (i j : Nat) (o : List Sp) : Prop where
  mem : ∀ v, Mem o v ↔ (-1073741824 ≤ v ∧ v ≤ 1073741824 ∧ PlS a b i j v)
  wd : SpW o
theorem PlI.start (a b : List Sp) : PlI a b 0 0 [] := by
  refine ⟨fun v => ⟨?_, ?_⟩, fun p hp => by cases hp⟩
  · rintro ⟨_, _, h⟩; exact h.elim
  · rintro ⟨_, _, h⟩; exact absurd h (plS_start a b v)
theorem PlI.next {a b : List Sp} {i j : Nat} {o : List Sp} (h : PlI a b i j o) {p q : Sp} (hp : a[i]? = some p) (hq : b[j]? = some q) (h1 : -1073741824 ≤ p.1 + q.1) (h2 : p.1 + q.1 ≤ p.2 + q.2) (h3 : p.2 + q.2 ≤ 1073741824) : PlI a b i (j + 1) (o ++ [(p.1 + q.1, p.2 + q.2)]) := by
  refine ⟨fun v => ?_, fun r hr => ?_⟩
  · rw [mem_app, h.mem, plS_next hp hq]
    constructor
    · rintro (⟨g1, g2, g3⟩ | ⟨g1, g2, g3⟩)
      · exact ⟨g1, g2, .inl g3⟩
      · exact ⟨g1, g2, .inr g3⟩
    · rintro ⟨g1, g2, g3 | g3⟩
      · exact .inl ⟨g1, g2, g3⟩
      · exact .inr ⟨g1, g2, g3⟩
  · rcases List.mem_append.1 hr with hr | hr
    · exact h.wd r hr
    · simp at hr; subst hr; simp only; omega
theorem PlI.row {a b : List Sp} {i : Nat} {o : List Sp} (h : PlI a b i b.length o) {p : Sp} (hp : a[i]? = some p) : PlI a b (i + 1) 0 o := ⟨fun v => by rw [h.mem, plS_row hp], h.wd⟩
theorem PlI.norm {a b : List Sp} {i j : Nat} {o r : List Sp} (h : PlI a b i j o) (hr : Rep r (Mem o)) : PlI a b i j r := ⟨fun v => by rw [hr.mem, h.mem], hr.1.spw⟩
theorem PlI.fin {a b : List Sp} {o r s : List Sp} (h : PlI a b a.length 0 o) (ha : Plain a) (hb : Plain b) (hr : Rep r (Mem o)) (hbd : ∀ v, SumS (Mem a) (Mem b) v → -1073741824 ≤ v ∧ v ≤ 1073741824) : Rep r (SumS (Mem a) (Mem b)) := hr.congr fun v => by
  rw [h.mem, plS_done ha hb]
  exact ⟨fun g => g.2.2, fun g => ⟨(hbd v g).1, (hbd v g).2, g⟩⟩
section
variable {w0 w : World} {F : World → Prop} {A B : Option Addr} {a b r : List Sp}
theorem plus_st (hK : Hid (St w0 w F)) (ha : ∀ W, F W → Lst A a W) (hb : ∀ W, F W → Lst B b W) (ca cb : Nat) (hpa : Hid (Plain a)) (hpb : Hid (Plain b)) (hbd : Hid (∀ v, SumS (Mem a) (Mem b) v → -1073741824 ≤ v ∧ v ≤ 1073741824)) (hr : Hid (Rep r (SumS (Mem a) (Mem b)))) :
    Calls Tryz.prog 246 #[.slice A a.length ca, .slice B b.length cb] w (RetL w0 r F) := by
  have HA := Lib.hid ha
  have HB := Lib.hid hb
  have hal := hpa.out.len_le
  have hbl := hpb.out.len_le
  clear ha hb
  go_enter Tryz.func246, Tryz.ntmps246
  go_wp2_with fail
  go_loopw [5, 12] (fun v i wr => ∃ (k : Nat) (o : List Sp) (Ao : Option Addr) (co : Nat), k ≤ a.length ∧ i = .int .i64 k ∧ v = .slice Ao o.length co ∧ o.length ≤ 1073741825 ∧ Hid (SRow wr w.heap.size Ao co o) ∧ Hid (PlI a b k 0 o) ∧ Hid (Below w.heap.size w wr)) (fun _ i _ => a.length - (intOf i).toNat)
  case atStart => exact ⟨0, [], none, 0, Nat.zero_le _, rfl, rfl, by simp, Lib.hid (SRow.start _ _), Lib.hid (PlI.start a b), Lib.hid (Below.refl _ _)⟩
  case round =>
  obtain ⟨k, o, Ao, co, hk, rfl, rfl, hol, HO, HI, HBL⟩ := hrel
  have HS := Lib.hid (hK.out.step HBL.out)
  by_cases hlt : k < a.length
  · obtain ⟨gb, off, p, hA, hp, hc1, hc2⟩ := (HA.out _ HS.out.now).sp.at_ hlt
    obtain ⟨x1, x2⟩ := p
    obtain ⟨hx0, hx12, hx2⟩ := PlainF.spw hpa.out (Int.le_refl _) (x1, x2) (List.mem_of_getElem? hp)
    have HP := Lib.hid hp
    simp only at hc1 hc2 hx0 hx12 hx2
    have hgw := lt_of_cell hc1
    subst hA
    have HPS := Lib.hid (PlW.start (x1 := x1) (x2 := x2) HO.out HBL.out)
    clear hp
    go_wp2_with fail
    clear hc1 hc2
    obtain ⟨w4, hw4⟩ : ∃ w4, wr.alloc (.cells #[.int .i64 x1, .int .i64 x2] 129) = w4 := ⟨_, rfl⟩
    obtain ⟨bx, hbx⟩ : ∃ b, wr.heap.size = b := ⟨_, rfl⟩
    rw [hw4, hbx] at HPS
    rw [hw4, hbx]
    clear hw4 hbx
    go_loopw [5, 18] (fun v i wr2 => ∃ (j : Nat) (o2 : List Sp) (Ao2 : Option Addr) (co2 : Nat), j ≤ b.length ∧ i = .int .i64 j ∧ v = .slice Ao2 o2.length co2 ∧ o2.length ≤ 1073741825 + j ∧ Hid (PlW w bx x1 x2 o2 Ao2 co2 wr2) ∧ Hid (PlI a b k j o2)) (fun _ i _ => b.length - (intOf i).toNat)
    case atStart => exact ⟨0, o, Ao, co, Nat.zero_le _, rfl, rfl, by omega, HPS, HI⟩
    case round =>
    clear HPS HI HO HBL HS
    obtain ⟨j, o2, Ao2, co2, hj, rfl, rfl, hol2, HPW, HI⟩ := hrel
    have HS := Lib.hid (hK.out.step HPW.out.bel)
    by_cases hlj : j < b.length
    · obtain ⟨gy, offy, py, hAy, hy, hd1, hd2⟩ := (HB.out _ HS.out.now).sp.at_ hlj
      obtain ⟨y1, y2⟩ := py
      obtain ⟨hy0, hy12, hy2⟩ := PlainF.spw hpb.out (Int.le_refl _) (y1, y2) (List.mem_of_getElem? hy)
      have HY := Lib.hid hy
      simp only at hd1 hd2 hy0 hy12 hy2
      have hgy := lt_of_cell hd1
      subst hAy
      have hx1 := HPW.out.c1
      have hx2c := HPW.out.c2
      have hbx := lt_of_cell hx1
      have hm : ∀ x y, (x = x1 ∨ x = x2) → (y = y1 ∨ y = y2) → SumS (Mem a) (Mem b) (x + y) := fun x y hx hy => by
        refine ⟨x, y, (hpa.out.mem _).2 ((InS_iff _ _).2 ⟨(x1, x2), List.mem_of_getElem? HP.out, ?_, ?_⟩), (hpb.out.mem _).2 ((InS_iff _ _).2 ⟨(y1, y2), List.mem_of_getElem? HY.out, ?_, ?_⟩), rfl⟩ <;> simp only <;> omega
      have hs1 := (hbd.out _ (hm x1 y1 (.inl rfl) (.inl rfl))).1
      have hs2 := (hbd.out _ (hm x2 y2 (.inr rfl) (.inr rfl))).2
      have HIN := Lib.hid (HI.out.next HP.out HY.out hs1 (by simp only; omega) hs2)
      have HPR := Lib.hid (HPW.out.round (.cells #[.int .i64 y1, .int .i64 y2] 129))
      have hsz := HPW.out.bel.size
      clear hy hm
      go_wp2_with (first | (at_builtin; go_must (refine wpList_pushS rfl _ _ rfl HPR.out.row rfl (by first | rfl | (simp; rfl) | simp) (by omega) (by simp; omega) ?_); intro l2 A2 c2 w5 HL2 HO2 HG2 HAT2))
      simp only at HIN
      rw [← HL2.out] at HIN
      have hl2 : l2.length = o2.length + 1 := by rw [HL2.out]; simp
      go_roundw
      case rel => exact ⟨j + 1, l2, A2, c2, by omega, by go_num, rfl, by omega, Lib.hid (HPR.out.push HO2.out HG2.out HAT2.out), HIN⟩
      case measure => simp [intOf]; omega
    · obtain rfl : j = b.length := by omega
      have hd : decide (b.length < b.length) = false := by simp
      have HI2 := Lib.hid (HI.out.row HP.out)
      have HSZ := Lib.hid HPW.out.bel.size
      by_cases h16 : (65536 : Int) < (o2.length : Int)
      · have HK3 := Lib.hid (HS.out.add (Below.refl _ _) (G := Lst Ao2 o2) (fun W hW => ⟨HPW.out.row.spans.below hW, HI.out.wd, by omega⟩))
        obtain ⟨ro, Ro⟩ := rep_norm o2
        clear hlj
        go_wp2_with fail
        refine (Norm_stN HK3 (fun _ h => h.1) _ Ro).mono ?_
        rintro e w6 ⟨A6, c6, rfl, HO6, HK6, HB6⟩
        have hrl := Ro.out.1.len_le
        go_wp2_with fail
        go_roundw
        case rel => exact ⟨k + 1, ro, A6, c6, by omega, by go_num, rfl, hrl, Lib.hid (own_base HO6.out HSZ.out), Lib.hid (HI2.out.norm Ro.out), Lib.hid (HPW.out.bel.trans (HB6.out.mono HSZ.out))⟩
        case measure => simp [intOf]; omega
      · clear hlj
        go_wp2_with fail
        go_roundw
        case rel => exact ⟨k + 1, o2, Ao2, co2, by omega, by go_num, rfl, by omega, Lib.hid HPW.out.row, HI2, Lib.hid HPW.out.bel⟩
        case measure => simp [intOf]; omega
  · obtain rfl : k = a.length := by omega
    have hd : decide (a.length < a.length) = false := by simp
    have HK3 := Lib.hid (HS.out.add (Below.refl _ _) (G := Lst Ao o) (fun W hW => ⟨HO.out.spans.below hW, HI.out.wd, by omega⟩))
    obtain ⟨ro, Ro⟩ := rep_norm o
    obtain rfl := Rep.unique (HI.out.fin (s := []) hpa.out hpb.out Ro.out hbd.out) hr.out (fun _ => Iff.rfl)
    clear hlt
    go_wp2_with fail
    refine (Norm_st HK3 (fun _ h => h.1) _ Ro).mono ?_
    rintro e w6 ⟨A6, c6, rfl, HK6⟩
    go_wp2_with fail
    go_ret
    exact ⟨A6, c6, rfl, Lib.hid (HK6.out.weaken fun _ h => ⟨h.1, h.2.2⟩)⟩
end
end Go.Proofs.YtlmkokeapbleoaaGreat
end
section
namespace Go.Proofs.YtlmkokeapbleoaaGreat
open Go.RowKit Go.Shelf
def waitsOn (md : Region.Mode) (ops : Array Oper) (z i : Nat) : Bool := ((ops[z]?).map fun o => o.after.any fun e => Region.binds md e && e.on == i).getD false
def wpAnyZ (P : Program) (md : Region.Mode) (ops : Array Oper) (Q : Exit → Act → World → Prop) (S : World → Prop) (z : Nat) : Nat → Array Bool → Act → World → Prop
  | 0, listed, a, w => Region.ready md ops listed = [] ∧ Q .normal a w
  | fuel + 1, listed, a, w => (Region.ready md ops listed = [] → Q .normal a w) ∧
    ∀ i ∈ Region.ready md ops listed, wpOp P ops Q i (fun a' w' => (i = z ∨ S w') ∧ wpAnyZ P md ops Q S z fuel (listed.setIfInBounds i true) a' w') a w
section
variable {P : Program} {ops : Array Oper} {Q : Exit → Act → World → Prop} {md : Region.Mode} {S : World → Prop} {z : Nat}
theorem wpAny_of_Z : ∀ (fuel : Nat) (listed : Array Bool) (a : Act) (w : World), wpAnyZ P md ops Q S z fuel listed a w → wpAny P md ops Q fuel listed a w
  | 0, _, _, _, h => h
  | fuel + 1, _, _, _, h => ⟨h.1, fun i hi => wpOp_mono (fun a' w' h' => wpAny_of_Z fuel _ a' w' h'.2) (h.2 i hi)⟩
theorem waits_not {i : Nat} {oz : Oper} (h : waitsOn md ops z i = true) (hz : ops[z]? = some oz) (hn : ∀ e ∈ oz.after, Region.binds md e = true → e.on ≠ i) : False := by
  unfold waitsOn at h
  rw [hz] at h
  simp only [Option.map_some, Option.getD_some] at h
  rw [Array.any_eq_true'] at h
  obtain ⟨e, he, hb⟩ := h
  rw [Bool.and_eq_true, beq_iff_eq] at hb
  exact hn e he hb.1 hb.2
theorem wpAnyZ_first {i : Nat} {oi : Oper} {v : Value} (hi : ops[i]? = some oi) (hsel : ∀ (j : Nat) (o : Oper) cs b, ops[j]? = some o → o.op ≠ .select cs b)
    (hQ : ∀ c a w, Q (.panic c) (a.put oi.dst v) w → Q (.panic c) a w) (hw : waitsOn md ops z i = true) :
    ∀ (fuel : Nat) (listed : Array Bool) (a : Act) (w : World),
      (∀ j oj, ops[j]? = some oj → j ≠ i → listed.getD j true = false → (∀ e ∈ oj.after, Region.binds md e = true → e.on ≠ i) → oi.apart ops oj = true) →
      i ∈ Region.ready md ops listed → YieldsIf P ops S oi v a → S w →
      wpAnyZ P md ops Q S z fuel (listed.setIfInBounds i true) (a.put oi.dst v) w → wpAnyZ P md ops Q S z (fuel + 1) listed a w := by
  intro fuel
  induction fuel with
  | zero =>
    intro listed a w _ hr hy hS H
    refine ⟨fun h => absurd hr (by rw [h]; exact List.not_mem_nil), fun j hj => ?_⟩
    by_cases hji : j = i
    · subst hji; exact hy.wpOp hi hS ⟨.inr hS, H⟩
    · have h1 := ready_mono hj hji
      rw [H.1] at h1
      exact absurd h1 List.not_mem_nil
  | succ fuel ih =>
    intro listed a w hfree hr hy hS H
    refine ⟨fun h => absurd hr (by rw [h]; exact List.not_mem_nil), fun j hj => ?_⟩
    by_cases hji : j = i
    · subst hji; exact hy.wpOp hi hS ⟨.inr hS, H⟩
    have h1 := H.2 j (ready_mono hj hji)
    obtain ⟨hun, oj, hoj, hall⟩ := mem_ready.1 hj
    have hi0 := (mem_ready.1 hr).1
    have hnot : ∀ e ∈ oj.after, Region.binds md e = true → e.on ≠ i := fun e he hb heq => by
      have h2 := hall e he hb
      rw [heq] at h2
      rcases Nat.lt_or_ge i listed.size with hl | hl
      · simp [hl] at hi0 h2; rw [hi0] at h2; cases h2
      · simp [Array.getElem?_eq_none hl] at h2
    have hjz : j ≠ z := fun e => by subst e; exact waits_not hw hoj hnot
    have h2 := wpOp_putIf hoj (hfree j oj hoj hji hun hnot) (fun cs b => hsel i oi cs b hi) (fun cs b => hsel j oj cs b hoj) hQ hy h1
    have hfree2 : ∀ k ok, ops[k]? = some ok → k ≠ i → (listed.setIfInBounds j true).getD k true = false → (∀ e ∈ ok.after, Region.binds md e = true → e.on ≠ i) → oi.apart ops ok = true := fun k ok hk hki hu hno => by
      refine hfree k ok hk hki ?_ hno
      by_cases hjk : j = k
      · subst hjk; exact hun
      · rw [getD_set_ne true hjk] at hu; exact hu
    refine wpOp_mono (fun a' w' h3 => ?_) h2
    have hS3 := h3.2.1.resolve_left hjz
    refine ⟨.inr hS3, ih (listed.setIfInBounds j true) a' w' hfree2 (ready_mono hr (Ne.symm hji)) h3.1 hS3 ?_⟩
    rw [Array.setIfInBounds_comm _ _ hji]
    exact h3.2.2
theorem wpAnyZ_take {i : Nat} {oi : Oper} {v : Value} {fuel : Nat} {listed : Array Bool} {a : Act} {w : World} (hi : ops[i]? = some oi)
    (hs : Region.noSelect ops = true) (hf : Region.free md ops listed i = true) (hr : (Region.ready md ops listed).contains i = true) (hw : waitsOn md ops z i = true)
    (hQ : ∀ c a w, Q (.panic c) (a.put oi.dst v) w → Q (.panic c) a w) (hy : YieldsIf P ops S oi v a) (hS : S w)
    (h : wpAnyZ P md ops Q S z fuel (listed.setIfInBounds i true) (a.put oi.dst v) w) : wpAnyZ P md ops Q S z (fuel + 1) listed a w :=
  wpAnyZ_first hi (Region.noSelect_spec hs) hQ hw fuel listed a w (Region.free_spec hi hf) (by simpa using hr) hy hS h
theorem wpAnyZ_ready {i : Nat} {fuel : Nat} {listed : Array Bool} {a : Act} {w : World} {o : Oper} (hr : Region.ready md ops listed = [i]) (ho : ops[i]? = some o)
    (h : ∀ K' : Act → World → Prop, Shut (∀ a w, S w → (S w → wpAnyZ P md ops Q S z fuel (listed.setIfInBounds i true) a w) → K' a w) → if Region.wanted o (yielded ops a.tmps) = true then Oper.wp P o a w K' Q else K' (a.put o.dst undef) w) :
    wpAnyZ P md ops Q S z (fuel + 1) listed a w :=
  ⟨fun h0 => absurd (hr.symm.trans h0) (by simp), by
    rw [hr]
    intro j hj
    rcases List.mem_singleton.1 hj with rfl
    exact wpOp_step ho (fun K' hK => h K' (fun a w hS hW => hK a w ⟨.inr hS, hW hS⟩))⟩
theorem wpAnyZ_last {i : Nat} {fuel : Nat} {listed : Array Bool} {a : Act} {w : World} {o : Oper} (hz : i = z) (hr : Region.ready md ops listed = [i]) (hr2 : Region.ready md ops (listed.setIfInBounds i true) = []) (ho : ops[i]? = some o)
    (h : ∀ K' : Act → World → Prop, Shut (∀ a w, Q .normal a w → K' a w) → if Region.wanted o (yielded ops a.tmps) = true then Oper.wp P o a w K' Q else K' (a.put o.dst undef) w) :
    wpAnyZ P md ops Q S z (fuel + 1) listed a w :=
  ⟨fun h0 => absurd (hr.symm.trans h0) (by simp), by
    rw [hr]
    intro j hj
    rcases List.mem_singleton.1 hj with rfl
    refine wpOp_step ho (fun K' hK => h K' (fun a w hq => hK a w ⟨.inl hz, ?_⟩))
    cases fuel with
    | zero => exact ⟨hr2, hq⟩
    | succ n => exact ⟨fun _ => hq, by rw [hr2]; intro k hk; exact absurd hk List.not_mem_nil⟩⟩
theorem wp_region_Z {id : Nat} {a : Act} {w : World} (z : Nat) (hm : P.follows .mixedOrders = true) (S : World → Prop) (hS : S w.drew)
    (h : S w.drew → wpAnyZ P .any ops Q S z ops.size (Array.replicate ops.size false) a w.drew) : (Code.region id ops true).wp P Q a w :=
  wp_region_any hm (wpAny_of_Z _ _ _ _ (h hS))
end
end Go.Proofs.YtlmkokeapbleoaaGreat
end
section
namespace Go.Proofs.YtlmkokeapbleoaaGreat
open Go.RowKit
def StageP (l : List PartL) : Prop := True
theorem infoPv : (Tryz.prog.info? 70).map (fun i => (i.zero, i.size, i.bytes)) = some (some (.agg #[.int .i64 0, .int .i64 0, .int .i64 0, .int .i64 0]), 4, 32) := by kernel_rfl
theorem infoIv : (Tryz.prog.info? 3).map (fun i => (i.zero, i.size, i.bytes)) = some (some (.int .i64 0), 1, 8) := by kernel_rfl
theorem tyIP2 : (3 : TypeId) ≠ 70 := by decide
theorem tyPI : (70 : TypeId) ≠ 3 := by decide
theorem MapRw.keepT {α : Type} {T : TypeId} {size : Nat} {f : α → List Value} {mb base : Nat} {g : Int → List α} {L : List (Int × Item α)} {W W' : World} (h : MapRw T size f mb base g L W) (hm : W'.heap[mb]? = W.heap[mb]?) (hk : ∀ k, base ≤ k → k < W.heap.size → (∃ cur, W.heap[k]? = some (.cells cur T (0, 0))) → W'.heap[k]? = W.heap[k]?) : MapRw T size f mb base g L W' :=
  ⟨h.mp.same hm, fun x hx => own_keep (h.sets x hx) fun k hA => hk k (own_ty (h.sets x hx) hA).1 (own_ty (h.sets x hx) hA).2.1 (own_ty (h.sets x hx) hA).2.2, h.apart, h.val, h.none⟩
theorem inRange_iff {t : TermL} {gs : List (List Sp)} {r : List Sp} (hr : Rep r (InnS t gs)) {x0 x1 : Int} (h0 : nthS r 0 = some x0) (h1 : nthS r (cnt r - 1) = some x1) : InRange t gs ↔ (0 ≤ x0 ∧ x1 ≤ 1114111) := by
  have hp := hr.1
  rcases last_cases r with rfl | ⟨m, q, hm⟩
  · simp [nthS] at h0
  · have hl : x1 = q.2 := by
      rw [hm] at hp h1
      rw [nthS_last hp] at h1
      injection h1 with h1; exact h1.symm
    have hq := PlainF.spw hp (Int.le_refl _) q (by rw [hm]; simp)
    rcases hr0 : r with _ | ⟨p, r2⟩
    · rw [hr0] at h0; simp [nthS] at h0
    · have hf : x0 = p.1 := by
        rw [hr0] at hp h0
        rw [nthS_first hp] at h0
        injection h0 with h0; exact h0.symm
      have hpp := PlainF.spw hp (Int.le_refl _) p (by rw [hr0]; simp)
      have i0 : InnS t gs x0 := (hr.2 x0).1 ((InS_iff _ _).2 ⟨p, by rw [hr0]; simp, by omega, by omega⟩)
      have i1 : InnS t gs x1 := (hr.2 x1).1 ((InS_iff _ _).2 ⟨q, by rw [hm]; simp, by omega, by omega⟩)
      constructor
      · intro h
        exact ⟨(h _ i0).1, (h _ i1).2⟩
      · rintro ⟨g0, g1⟩ v hv
        obtain ⟨y, hy, h2, h3⟩ := (InS_iff _ _).1 ((hr.2 v).2 hv)
        constructor
        · have hlow : p.1 ≤ y.1 := by
            rw [hr0] at hp hy
            obtain ⟨a1, a2, a3, a4⟩ := hp
            rcases List.mem_cons.1 hy with e | e
            · rw [e]; exact Int.le_refl _
            · have := PlainF.low a4 ((InS_iff _ _).2 ⟨y, e, Int.le_refl _, by omega⟩); omega
          omega
        · have hhi : y.2 ≤ q.2 := by
            rw [hm] at hp hy
            rcases List.mem_append.1 hy with e | e
            · have := (PlainF.last hp).2.1 y e; omega
            · simp at e; rw [e]; exact Int.le_refl _
          omega
theorem cells4 {W : World} {b : Nat} {x1 x2 x3 x4 : Int} {t : TypeId} (h : W.heap[b]? = some (.cells #[.int .i64 x1, .int .i64 x2, .int .i64 x3, .int .i64 x4] t (0, 0))) : W.cell? ⟨b, 0, none⟩ = some (.int .i64 x1) ∧ W.cell? ⟨b, 1, none⟩ = some (.int .i64 x2) ∧ W.cell? ⟨b, 2, none⟩ = some (.int .i64 x3) ∧ W.cell? ⟨b, 3, none⟩ = some (.int .i64 x4) := by
  simp [World.cell?, h]
section
variable {w0 w : World} {F : World → Prop}
theorem values_st (hK : Hid (St w0 w F)) {A : Option Addr} {l : List PartL} (hp : ∀ W, F W → PartsAt A l W) (b d t u s : Int) (c : Nat) {B : Option Addr} {O : List (Item Sp)} (hb : ∀ W, F W → LLx B O W) (cb : Nat)
    (hn : Hid (NumsOk ⟨b, d, t, u, s, l⟩)) (hpo : Hid (∀ p ∈ l, PartOk O.length p)) (hO : Hid (∀ g ∈ bodies O, g ≠ [] ∧ Plain g ∧ ∀ x, InS g x → 0 ≤ x ∧ x ≤ 1114111)) (r : List Sp) (hr : Hid (Rep r (InnS ⟨b, d, t, u, s, l⟩ (bodies O)))) (ok : Bool) (hok : Hid (pB (InRange ⟨b, d, t, u, s, l⟩ (bodies O)) = ok)) (hst : StageP l) :
    Calls Tryz.prog 242 #[.agg #[.int .i64 b, .int .i64 d, .int .i64 t, .int .i64 u, .int .i64 s, .slice A l.length c], .slice B O.length cb] w (RetLB2 w0 r ok F) := by
  have HP := Lib.hid hp
  have HB := Lib.hid hb
  have hl4 : l.length ≤ 4 := hn.out.2.2.2.2
  have HSS : Hid (SmallN s) := Lib.hid hn.out.2.1
  have HBI : Hid (∀ p ∈ l, bitsB p.2.1 p.2.2.1 p.2.2.2 = true) := Lib.hid fun p hp => bitsOk_b (hpo.out p hp).2.2
  have HK := St.box hK [.int .i64 b, .int .i64 d, .int .i64 t, .int .i64 u, .int .i64 s, .slice A l.length c] 68
  obtain ⟨w1, hw1⟩ : ∃ z, w.alloc (.cells [.int .i64 b, .int .i64 d, .int .i64 t, .int .i64 u, .int .i64 s, .slice A l.length c].toArray 68) = z := ⟨_, rfl⟩
  have hs1 : w1.heap.size = w.heap.size + 1 := by rw [← hw1]; simp
  rw [hw1] at HK
  have HM0 := Lib.hid (fun base => MapRw.start (T := 70) (size := 4) (f := partC) w1 base)
  obtain ⟨w3, hw3⟩ : ∃ z, w1.alloc (.map #[] 0) = z := ⟨_, rfl⟩
  have hs3 : w3.heap.size = w.heap.size + 2 := by rw [← hw3]; simp; omega
  have HB13 : Hid (Below w1.heap.size w1 w3) := Lib.hid (by rw [← hw3]; exact (Below.refl _ _).alloc (Nat.le_refl _) _)
  rw [hw3, hs1] at HM0
  rw [hs1] at HB13
  have hq5 := (HK.out.step (by rw [hs1]; exact HB13.out)).now.1 5 _ rfl
  have hmm := @run_makeMap Tryz.prog
  obtain ⟨j0, ji, jz0, jz1, jz2⟩ := info_parts infoIv
  obtain ⟨i0, hi, hz0, hz1, hz2⟩ := info_parts infoPv
  have HS1 := Lib.hid hs1
  have HS3 := Lib.hid hs3
  clear hp hb
  go_enter Tryz.func242, Tryz.ntmps242
  go_wp2_with fail
  (try rw [hw1]); (try rw [hs1]); (try rw [hw3])
  clear hmm hw1 hw3
  go_loopw [7, 21] (fun pv iv wr => ∃ (k : Nat) (L : List (Int × Item PartL)) (PA : Option Addr) (pc : Nat), k ≤ l.length ∧ iv = .int .i64 k ∧ pv = .slice PA (plV (l.take k)).length pc ∧ L.length ≤ k ∧ Hid (MapRw 70 4 partC (w.heap.size + 1) w3.heap.size (OneAt (l.take k)) L wr) ∧
      Hid (wr.ownsRow w3.heap.size 3 1 (.slice PA (plV (l.take k)).length pc) (plV (l.take k)).length ((plV (l.take k)).map (Value.int .i64))) ∧ Hid (w3.heap.size ≤ wr.heap.size ∧ Below (w.heap.size + 1) w1 wr)) (fun _ iv _ => l.length - (intOf iv).toNat)
  case atStart =>
    refine ⟨0, [], none, 0, Nat.zero_le _, rfl, rfl, Nat.zero_le _, Lib.hid (HM0.out _), Lib.hid (World.ownsRow_nil _ _ _ _), Lib.hid ⟨Nat.le_refl _, HB13.out⟩⟩
  case round =>
  clear hq5
  obtain ⟨k, L, PA, pc, hk, rfl, rfl, hLk, HMP, HPL, HFR⟩ := hrel
  have HKr := Lib.hid (HK.out.step (by rw [HS1.out]; exact HFR.out.2))
  have hbs := HFR.out.1
  by_cases hlt : k < l.length
  case pos =>
    obtain ⟨pb, off, p, rfl, hx, hw, hd0, hd1, hd2, hd3⟩ := (HP.out _ HKr.out.now.2).at_ hlt
    have HX := Lib.hid hx
    have HPW : Hid (PartW p) := Lib.hid hw
    obtain ⟨x1, x2, x3, x4⟩ := p
    simp only at hd0 hd1 hd2 hd3
    obtain ⟨A6, c6, hl6, hown6, hlook⟩ := HMP.out.look (mt := 308) (et := 66) (n := x1) hw.1 Tryz.underlying308 (fun W => Tryz.zeroValue66 W)
    have HL6 := Lib.hid hl6
    have HOWN6 := Lib.hid hown6
    have HLOOK := Lib.hid hlook
    have hlt1 : plV (l.take (k + 1)) = if x1 ∈ plV (l.take k) then plV (l.take k) else plV (l.take k) ++ [x1] := by rw [take_snoc? HX.out]; exact plV_snoc _ _
    have hpl4 : (plV (l.take k)).length ≤ 4 := by
      have h1 := plV_len (l.take k)
      have h2 : (l.take k).length ≤ l.length := by rw [List.length_take]; omega
      omega
    have HNB : Hid (∀ y ∈ L, ∀ j, ownA y.2.1 = some j → j < wr.heap.size) := Lib.hid fun y hy j hj => (own_ty (HMP.out.sets y hy) hj).2.1
    have hbx : ∀ o : Obj, wr.heap.size < (wr.alloc o).heap.size := fun o => by simp
    have HBX := Lib.hid (heap_alloc_new wr (.cells #[.int .i64 x1, .int .i64 x2, .int .i64 x3, .int .i64 x4] 70))
    clear hx hw hl6 hown6
    by_cases hin : x1 ∈ plV (l.take k)
    · rw [if_pos hin] at hlt1
      have hne : (((OneAt (l.take k) x1).length : Int) == 0) = false := by
        rw [beq_eq_false_iff_ne]
        intro h
        exact oneAt_ne hin (List.eq_nil_of_length_eq_zero (by omega))
      have HLK := Lib.hid (hlook (wr.alloc (.cells #[.int .i64 x1, .int .i64 x2, .int .i64 x3, .int .i64 x4] 70)) (Below.heap_alloc _ _ _ HMP.out.mp.lt))
      have hlk := HLK.out
      have HLT1 := Lib.hid hlt1
      have HIN := Lib.hid hin
      clear hlook hlt1 hin
      go_wp2_with fail
      have hX := cells4 HBX.out
      have HMPX := Lib.hid (HMP.out.below ((Below.refl wr.heap.size wr).alloc (Nat.le_refl _) (.cells #[.int .i64 x1, .int .i64 x2, .int .i64 x3, .int .i64 x4] 70)))
      have HPLX : Hid ((wr.alloc (.cells #[.int .i64 x1, .int .i64 x2, .int .i64 x3, .int .i64 x4] 70)).ownsRow w3.heap.size 3 1 (.slice PA (plV (l.take (k + 1))).length pc) (plV (l.take (k + 1))).length ((plV (l.take (k + 1))).map (Value.int .i64))) := Lib.hid (by rw [HLT1.out]; exact HPL.out.alloc _)
      have HFX : Hid (w3.heap.size ≤ (wr.alloc (.cells #[.int .i64 x1, .int .i64 x2, .int .i64 x3, .int .i64 x4] 70)).heap.size ∧ Below (w.heap.size + 1) w1 (wr.alloc (.cells #[.int .i64 x1, .int .i64 x2, .int .i64 x3, .int .i64 x4] 70)) ∧ wr.heap.size < (wr.alloc (.cells #[.int .i64 x1, .int .i64 x2, .int .i64 x3, .int .i64 x4] 70)).heap.size) := Lib.hid ⟨by simp; omega, HFR.out.2.alloc (by have := HS3.out; omega) _, by simp⟩
      rw [← HLT1.out]
      obtain ⟨wX, hwX⟩ : ∃ z, wr.alloc (.cells #[.int .i64 x1, .int .i64 x2, .int .i64 x3, .int .i64 x4] 70) = z := ⟨_, rfl⟩
      rw [hwX] at hX HMPX HPLX HFX
      (try rw [hwX])
      clear hwX HLK hlk hbx
      obtain ⟨wA, hwA⟩ : ∃ z, World.drew wX = z := ⟨_, rfl⟩
      have hA0 : wA.cell? ⟨wr.heap.size, 0, none⟩ = some (.int .i64 x1) := by rw [← hwA]; exact hX.1
      have hA1 : wA.cell? ⟨wr.heap.size, 1, none⟩ = some (.int .i64 x2) := by rw [← hwA]; exact hX.2.1
      have hA2 : wA.cell? ⟨wr.heap.size, 2, none⟩ = some (.int .i64 x3) := by rw [← hwA]; exact hX.2.2.1
      have hA3 : wA.cell? ⟨wr.heap.size, 3, none⟩ = some (.int .i64 x4) := by rw [← hwA]; exact hX.2.2.2
      have HMPA : Hid (MapRw 70 4 partC (w.heap.size + 1) w3.heap.size (OneAt (l.take k)) L wA) := Lib.hid (by rw [← hwA]; exact HMPX.out.keep fun _ _ _ => rfl)
      have HPLA : Hid (wA.ownsRow w3.heap.size 3 1 (.slice PA (plV (l.take (k + 1))).length pc) (plV (l.take (k + 1))).length ((plV (l.take (k + 1))).map (Value.int .i64))) := Lib.hid (by rw [← hwA]; exact HPLX.out.drew)
      have HFA : Hid (w3.heap.size ≤ wA.heap.size ∧ Below (w.heap.size + 1) w1 wA ∧ wr.heap.size < wA.heap.size) := Lib.hid (by rw [← hwA]; exact ⟨HFX.out.1, HFX.out.2.1.drew, HFX.out.2.2⟩)
      obtain ⟨A6, c6, hl6, hown6, hlook⟩ := HMPA.out.look (mt := 308) (et := 66) (n := x1) HPW.out.1 Tryz.underlying308 (fun W => Tryz.zeroValue66 W)
      have HL6 := Lib.hid hl6
      have HOWN6 := Lib.hid hown6
      have HL6b : Hid (∀ j, ownA A6 = some j → w3.heap.size ≤ j ∧ j < wr.heap.size) := Lib.hid fun j hj => by
        refine ⟨(own_ty hown6 hj).1, ?_⟩
        rcases hl6 with ⟨y, hy, rfl⟩ | ⟨_, rfl, _⟩
        · exact HNB.out _ hy j hj
        · cases hj
      have HLOOK := Lib.hid hlook
      have hol : (OneAt (l.take k) x1).length ≤ 4 := by
        have h1 := oneAt_len (l.take k) x1
        have h2 : (l.take k).length ≤ l.length := by rw [List.length_take]; omega
        omega
      have hbA := HFA.out.1
      have hmA : w.heap.size + 1 < wA.heap.size := by have := HS3.out; omega
      clear hl6 hown6 hlook
      refine wp_region_Z 10 (by kernel_rfl) (fun W => (W.cell? ⟨wr.heap.size, 0, none⟩ = some (.int .i64 x1) ∧ W.cell? ⟨wr.heap.size, 1, none⟩ = some (.int .i64 x2) ∧ W.cell? ⟨wr.heap.size, 2, none⟩ = some (.int .i64 x3) ∧ W.cell? ⟨wr.heap.size, 3, none⟩ = some (.int .i64 x4)) ∧ W.heap[w.heap.size + 1]? = wA.heap[w.heap.size + 1]?) (by rw [hwA]; exact ⟨⟨hA0, hA1, hA2, hA3⟩, rfl⟩) (fun hHeld => ?_)
      refine wpAnyZ_take (i := 0) (v := ?_) rfl (by kernel_rfl) (by kernel_rfl) (by kernel_rfl) (by kernel_rfl) (fun _ _ _ h => h) (Or.inl ⟨by first | kernel_rfl | rfl, ?_⟩) (by assumption) ?_
      rotate_left
      · intro w hSw; (try dsimp only at hSw); go_simp; (try with_reducible rfl)
      (try simp only [Act.put, List.getElem_toArray, List.getElem_cons_succ, List.getElem_cons_zero, List.setIfInBounds_toArray, List.set_cons_zero, List.set_cons_succ])
      refine wpAnyZ_take (i := 1) (v := ?_) rfl (by kernel_rfl) (by kernel_rfl) (by kernel_rfl) (by kernel_rfl) (fun _ _ _ h => h) (Or.inl ⟨by first | kernel_rfl | rfl, ?_⟩) (by assumption) ?_
      rotate_left
      · intro w hSw; (try dsimp only at hSw); go_simp; (try with_reducible rfl)
      (try simp only [Act.put, List.getElem_toArray, List.getElem_cons_succ, List.getElem_cons_zero, List.setIfInBounds_toArray, List.set_cons_zero, List.set_cons_succ])
      refine wpAnyZ_take (i := 2) (v := ?_) rfl (by kernel_rfl) (by kernel_rfl) (by kernel_rfl) (by kernel_rfl) (fun _ _ _ h => h) (Or.inl ⟨by first | kernel_rfl | rfl, ?_⟩) (by assumption) ?_
      rotate_left
      · intro w hSw; (try dsimp only at hSw); go_simp; (try with_reducible rfl)
      (try simp only [Act.put, List.getElem_toArray, List.getElem_cons_succ, List.getElem_cons_zero, List.setIfInBounds_toArray, List.set_cons_zero, List.set_cons_succ])
      refine wpAnyZ_take (i := 3) (v := ?_) rfl (by kernel_rfl) (by kernel_rfl) (by kernel_rfl) (by kernel_rfl) (fun _ _ _ h => h) (Or.inl ⟨by first | kernel_rfl | rfl, ?_⟩) (by assumption) ?_
      rotate_left
      · intro w hSw; (try dsimp only at hSw); go_simp; (try with_reducible rfl)
      (try simp only [Act.put, List.getElem_toArray, List.getElem_cons_succ, List.getElem_cons_zero, List.setIfInBounds_toArray, List.set_cons_zero, List.set_cons_succ])
      refine wpAnyZ_take (i := 4) (v := ?_) rfl (by kernel_rfl) (by kernel_rfl) (by kernel_rfl) (by kernel_rfl) (fun _ _ _ h => h) (Or.inl ⟨by first | kernel_rfl | rfl, ?_⟩) (by assumption) ?_
      rotate_left
      · intro w hSw; (try dsimp only at hSw); go_simp; (try with_reducible rfl)
      (try simp only [Act.put, List.getElem_toArray, List.getElem_cons_succ, List.getElem_cons_zero, List.setIfInBounds_toArray, List.set_cons_zero, List.set_cons_succ])
      refine wpAnyZ_take (i := 5) (v := ?_) rfl (by kernel_rfl) (by kernel_rfl) (by kernel_rfl) (by kernel_rfl) (fun _ _ _ h => h) (Or.inl ⟨by first | kernel_rfl | rfl, ?_⟩) (by assumption) ?_
      rotate_left
      · intro w hSw; (try dsimp only at hSw); go_simp; (try with_reducible rfl)
      (try simp only [Act.put, List.getElem_toArray, List.getElem_cons_succ, List.getElem_cons_zero, List.setIfInBounds_toArray, List.set_cons_zero, List.set_cons_succ])
      refine wpAnyZ_take (i := 6) (v := .slice A6 (OneAt (l.take k) x1).length c6) rfl (by kernel_rfl) (by kernel_rfl) (by kernel_rfl) (by kernel_rfl) (fun _ _ _ h => h) (yieldsIf_lookup (by first | kernel_rfl | rfl) rfl rfl rfl (fun W hS => HLOOK.out W hS.2)) (by assumption) ?_
      (try simp only [Act.put, List.getElem_toArray, List.getElem_cons_succ, List.getElem_cons_zero, List.setIfInBounds_toArray, List.set_cons_zero, List.set_cons_succ])
      refine wpAnyZ_take (i := 7) (v := ?_) rfl (by kernel_rfl) (by kernel_rfl) (by kernel_rfl) (by kernel_rfl) (fun _ _ _ h => h) (Or.inl ⟨by first | kernel_rfl | rfl, ?_⟩) (by assumption) ?_
      rotate_left
      · intro w hSw; (try dsimp only at hSw); go_simp; (try with_reducible rfl)
      (try simp only [Act.put, List.getElem_toArray, List.getElem_cons_succ, List.getElem_cons_zero, List.setIfInBounds_toArray, List.set_cons_zero, List.set_cons_succ])
      rw [hwA]
      refine wpAnyZ_ready (i := 8) (by kernel_rfl) rfl (fun K hK => ?_)
      go_simp
      have hSb : ((wA.alloc (.cells #[.int .i64 x1, .int .i64 x2, .int .i64 x3, .int .i64 x4] 70)).cell? ⟨wr.heap.size, 0, none⟩ = some (.int .i64 x1) ∧ (wA.alloc (.cells #[.int .i64 x1, .int .i64 x2, .int .i64 x3, .int .i64 x4] 70)).cell? ⟨wr.heap.size, 1, none⟩ = some (.int .i64 x2) ∧ (wA.alloc (.cells #[.int .i64 x1, .int .i64 x2, .int .i64 x3, .int .i64 x4] 70)).cell? ⟨wr.heap.size, 2, none⟩ = some (.int .i64 x3) ∧ (wA.alloc (.cells #[.int .i64 x1, .int .i64 x2, .int .i64 x3, .int .i64 x4] 70)).cell? ⟨wr.heap.size, 3, none⟩ = some (.int .i64 x4)) ∧ (wA.alloc (.cells #[.int .i64 x1, .int .i64 x2, .int .i64 x3, .int .i64 x4] 70)).heap[w.heap.size + 1]? = wA.heap[w.heap.size + 1]? :=
        ⟨⟨cellAlloc _ hA0, cellAlloc _ hA1, cellAlloc _ hA2, cellAlloc _ hA3⟩, Below.heap_alloc _ _ _ hmA⟩
      refine hK.out _ _ (hSb) (fun hHeld => ?_)
      clear hK K
      (try simp only [Act.put, List.getElem_toArray, List.getElem_cons_succ, List.getElem_cons_zero, List.setIfInBounds_toArray, List.set_cons_zero, List.set_cons_succ])
      refine wpAnyZ_ready (i := 9) (by kernel_rfl) rfl (fun K hK => ?_)
      refine step_pushG rfl _ _ 66 rfl w3.heap.size 70 i0 _ 4 32 Tryz.underlying66 hi hz0 hz1 hz2 rfl (by decide) HOWN6.out rfl [.int .i64 x1, .int .i64 x2, .int .i64 x3, .int .i64 x4] 70 rfl rfl (by simp [Value.oneCell']) (by omega) (by decide) hbA ?_
      intro A9 c9 w9 HO9 HG9 HN9
      have hmA6 : ownA A6 ≠ some (w.heap.size + 1) := fun e => by
        have h1 := (own_ty HOWN6.out e).1
        have h3 := HS3.out
        omega
      have hbA6 : ownA A6 ≠ some wr.heap.size := fun e => by
        have h1 := (HL6b.out _ e).2
        omega
      have h9m : w9.heap[w.heap.size + 1]? = wA.heap[w.heap.size + 1]? := (HG9.out.block _ (by simp; omega) (fun e => hmA6 e.symm)).trans hSb.2
      have h9c := hSb.1
      have h9c : w9.cell? ⟨wr.heap.size, 0, none⟩ = some (.int .i64 x1) ∧ w9.cell? ⟨wr.heap.size, 1, none⟩ = some (.int .i64 x2) ∧ w9.cell? ⟨wr.heap.size, 2, none⟩ = some (.int .i64 x3) ∧ w9.cell? ⟨wr.heap.size, 3, none⟩ = some (.int .i64 x4) :=
        ⟨HG9.out.cell hSb.1.1 (fun e => hbA6 e.symm), HG9.out.cell hSb.1.2.1 (fun e => hbA6 e.symm), HG9.out.cell hSb.1.2.2.1 (fun e => hbA6 e.symm), HG9.out.cell hSb.1.2.2.2 (fun e => hbA6 e.symm)⟩
      refine hK.out _ _ (⟨h9c, h9m⟩) (fun hHeld => ?_)
      clear hK K
      (try simp only [Act.put, List.getElem_toArray, List.getElem_cons_succ, List.getElem_cons_zero, List.setIfInBounds_toArray, List.set_cons_zero, List.set_cons_succ])
      have hkeyF : keyOf Tryz.prog 3 (.int .i64 x1) = some (.int .i64 x1) := Maps.keyOf_int_mk Tryz.underlying3 (by
        have := HPW.out.1; unfold I64 at this
        simp [Lit.wf, IntKind.min, IntKind.max, IntKind.signed, IntKind.bits]; omega)
      obtain ⟨wB, hrun, hMB, hGB, hSB⟩ := (HMPA.out.mp.same h9m).put (Maps.int_keyed Tryz.underlying3) Tryz.underlying308 (by rw [List.length_map]; unfold maxLen; omega) (.slice A9 ((OneAt (l.take k) x1).length + 1) c9) hkeyF
      obtain ⟨L2, hMP2, hfr2, hsz2, hbel2, hL2⟩ := HMPA.out.step (W7 := wA) (x := ((x1, x2, x3, x4) : PartL)) (by have := HS3.out; omega) hbA (Below.refl _ _) HL6.out HO9.out HG9.out HN9.out (by
        have e : ival ((A9, c9, OneAt (l.take k) x1 ++ [((x1, x2, x3, x4) : PartL)]) : Item PartL) = .slice A9 ((OneAt (l.take k) x1).length + 1) c9 := by simp [ival]
        rw [e]; exact hMB) hGB
      have HMP2 : Hid (MapRw 70 4 partC (w.heap.size + 1) w3.heap.size (OneAt (l.take (k + 1))) L2 wB) := Lib.hid (by
        have e : OneAt (l.take (k + 1)) = putG (OneAt (l.take k)) x1 (x1, x2, x3, x4) := by
          funext m
          rw [take_snoc? HX.out, oneAt_snoc]
          rfl
        rw [e]; exact hMP2)
      have HPL2 : Hid (wB.ownsRow w3.heap.size 3 1 (.slice PA (plV (l.take (k + 1))).length pc) (plV (l.take (k + 1))).length ((plV (l.take (k + 1))).map (Value.int .i64))) := Lib.hid (own_keep HPLA.out fun j hj => by
        have h1 := own_ty HPLA.out hj
        have h3 := HS3.out
        have h4 := HG9.out.size
        simp at h4
        exact (hGB.block j (by omega) (fun e => by injection e with e; omega)).trans ((HG9.out.block j (by simp; omega) (fun e => own_apart HPLA.out HOWN6.out tyIP2 j hj e.symm)).trans (Below.heap_alloc _ _ _ h1.2.1)))
      have HFR2 : Hid (w3.heap.size ≤ wB.heap.size ∧ Below (w.heap.size + 1) w1 wB) := Lib.hid ⟨Nat.le_trans hbA hsz2, HFA.out.2.1.trans (hbel2 (w.heap.size + 1) (Nat.le_refl _) (by omega))⟩
      refine wpAnyZ_last (i := 10) rfl (by kernel_rfl) (by kernel_rfl) rfl (fun K hK => ?_)
      refine wp_mapUpdate rfl rfl rfl rfl hrun ?_
      refine hK.out _ _ ?_
      have hlL : L2.length ≤ k + 1 := by omega
      have HLT := Lib.hid hlt
      clear hHeld hK K hrun hMB hGB hSB hMP2 hfr2 hsz2 hbel2 hL2 h9m h9c hSb hmA6 hbA6 hA0 hA1 hA2 hA3 hwA hlt hbs hmA hbA hkeyF hX
      (try simp only [Act.put, List.getElem_toArray, List.getElem_cons_succ, List.getElem_cons_zero, List.setIfInBounds_toArray, List.set_cons_zero, List.set_cons_succ])
      go_wp2_with fail
      go_roundw
      case rel => exact ⟨k + 1, L2, PA, pc, by have := HLT.out; omega, by go_num, rfl, hlL, HMP2, HPL2, HFR2⟩
      case measure => have := HLT.out; simp [intOf]; omega
    · rw [if_neg hin] at hlt1
      have hnil := oneAt_nil.2 hin
      have HLK := Lib.hid (hlook (wr.alloc (.cells #[.int .i64 x1, .int .i64 x2, .int .i64 x3, .int .i64 x4] 70)) (Below.heap_alloc _ _ _ HMP.out.mp.lt))
      rw [hnil] at HLK
      have hlk := HLK.out
      have HLT1 := Lib.hid hlt1
      have hz3 : w3.heap.size ≤ (wr.alloc (.cells #[.int .i64 x1, .int .i64 x2, .int .i64 x3, .int .i64 x4] 70)).heap.size := by simp; omega
      have HPA := Lib.hid (HPL.out.alloc (.cells #[.int .i64 x1, .int .i64 x2, .int .i64 x3, .int .i64 x4] 70))
      have hbC := heap_alloc_new wr (.cells #[.int .i64 x1, .int .i64 x2, .int .i64 x3, .int .i64 x4] 70)
      have h40 : (plV (l.take k)).length < 1099511627776 := by omega
      clear hlook hlt1 hin hnil hbC
      go_wp2_with (at_builtin; go_must (refine wpList_pushG rfl _ _ 62 rfl w3.heap.size 3 j0 _ 1 8 Tryz.underlying62 ji jz0 jz1 jz2 rfl (by decide) HPA.out rfl [.int .i64 x1] 3 (by first | rfl | (simp; rfl) | simp) rfl (by simp [Value.oneCell']) h40 (by decide) hz3 ?_); intro PB qc wX HO7 HG7 HN7)
      have hpne : ownA PA ≠ some wr.heap.size := fun e => by have := (own_ty HPL.out e).2.1; omega
      have hs7 := HG7.out.size
      simp at hs7
      have hX := cells4 (t := 70) ((HG7.out.block wr.heap.size (by simp; omega) (fun e => hpne e.symm)).trans ((Below.heap_alloc _ _ _ (by simp)).trans HBX.out))
      have hkeep : ∀ j, j < wr.heap.size → ownA PA ≠ some j → wX.heap[j]? = wr.heap[j]? := fun j hj hne => (HG7.out.block j (by simp; omega) (fun e => hne e.symm)).trans ((Below.heap_alloc _ _ _ (by simp; omega)).trans (Below.heap_alloc _ _ _ hj))
      have HMPX : Hid (MapRw 70 4 partC (w.heap.size + 1) w3.heap.size (OneAt (l.take k)) L wX) := Lib.hid (HMP.out.keepT (hkeep _ HMP.out.mp.lt (fun e => by have := (own_ty HPL.out e).1; have := HS3.out; omega)) fun j h1 h2 h3 => hkeep j h2 (fun e => by
        obtain ⟨cur, h4⟩ := h3
        obtain ⟨_, _, cur2, h5⟩ := own_ty HPL.out e
        rw [h4] at h5
        injection h5 with h5; injection h5 with _ h5
        exact tyPI h5))
      have HPLX : Hid (wX.ownsRow w3.heap.size 3 1 (.slice PB (plV (l.take (k + 1))).length qc) (plV (l.take (k + 1))).length ((plV (l.take (k + 1))).map (Value.int .i64))) := Lib.hid (by
        rw [HLT1.out, List.map_append, List.length_append]; exact HO7.out)
      have HFX : Hid (w3.heap.size ≤ wX.heap.size ∧ Below (w.heap.size + 1) w1 wX ∧ wr.heap.size < wX.heap.size) := Lib.hid ⟨by omega, ((HFR.out.2.alloc (by have := HS3.out; omega) _).alloc (by have := HS3.out; simp; omega) _).grown HG7.out (by have := HS3.out; simp; omega) (fun g hg => by have := (own_ty HPL.out hg).1; have := HS3.out; omega), by omega⟩
      have e1 : (plV (l.take k)).length + 1 = (plV (l.take (k + 1))).length := by rw [HLT1.out]; simp
      rw [e1]
      clear HLK hlk hbx hkeep hpne hs7 hz3 h40 e1 HO7 HG7 HN7 HPA
      obtain ⟨wA, hwA⟩ : ∃ z, World.drew wX = z := ⟨_, rfl⟩
      have hA0 : wA.cell? ⟨wr.heap.size, 0, none⟩ = some (.int .i64 x1) := by rw [← hwA]; exact hX.1
      have hA1 : wA.cell? ⟨wr.heap.size, 1, none⟩ = some (.int .i64 x2) := by rw [← hwA]; exact hX.2.1
      have hA2 : wA.cell? ⟨wr.heap.size, 2, none⟩ = some (.int .i64 x3) := by rw [← hwA]; exact hX.2.2.1
      have hA3 : wA.cell? ⟨wr.heap.size, 3, none⟩ = some (.int .i64 x4) := by rw [← hwA]; exact hX.2.2.2
      have HMPA : Hid (MapRw 70 4 partC (w.heap.size + 1) w3.heap.size (OneAt (l.take k)) L wA) := Lib.hid (by rw [← hwA]; exact HMPX.out.keep fun _ _ _ => rfl)
      have HPLA : Hid (wA.ownsRow w3.heap.size 3 1 (.slice PB (plV (l.take (k + 1))).length qc) (plV (l.take (k + 1))).length ((plV (l.take (k + 1))).map (Value.int .i64))) := Lib.hid (by rw [← hwA]; exact HPLX.out.drew)
      have HFA : Hid (w3.heap.size ≤ wA.heap.size ∧ Below (w.heap.size + 1) w1 wA ∧ wr.heap.size < wA.heap.size) := Lib.hid (by rw [← hwA]; exact ⟨HFX.out.1, HFX.out.2.1.drew, HFX.out.2.2⟩)
      obtain ⟨A6, c6, hl6, hown6, hlook⟩ := HMPA.out.look (mt := 308) (et := 66) (n := x1) HPW.out.1 Tryz.underlying308 (fun W => Tryz.zeroValue66 W)
      have HL6 := Lib.hid hl6
      have HOWN6 := Lib.hid hown6
      have HL6b : Hid (∀ j, ownA A6 = some j → w3.heap.size ≤ j ∧ j < wr.heap.size) := Lib.hid fun j hj => by
        refine ⟨(own_ty hown6 hj).1, ?_⟩
        rcases hl6 with ⟨y, hy, rfl⟩ | ⟨_, rfl, _⟩
        · exact HNB.out _ hy j hj
        · cases hj
      have HLOOK := Lib.hid hlook
      have hol : (OneAt (l.take k) x1).length ≤ 4 := by
        have h1 := oneAt_len (l.take k) x1
        have h2 : (l.take k).length ≤ l.length := by rw [List.length_take]; omega
        omega
      have hbA := HFA.out.1
      have hmA : w.heap.size + 1 < wA.heap.size := by have := HS3.out; omega
      clear hl6 hown6 hlook
      refine wp_region_Z 10 (by kernel_rfl) (fun W => (W.cell? ⟨wr.heap.size, 0, none⟩ = some (.int .i64 x1) ∧ W.cell? ⟨wr.heap.size, 1, none⟩ = some (.int .i64 x2) ∧ W.cell? ⟨wr.heap.size, 2, none⟩ = some (.int .i64 x3) ∧ W.cell? ⟨wr.heap.size, 3, none⟩ = some (.int .i64 x4)) ∧ W.heap[w.heap.size + 1]? = wA.heap[w.heap.size + 1]?) (by rw [hwA]; exact ⟨⟨hA0, hA1, hA2, hA3⟩, rfl⟩) (fun hHeld => ?_)
      refine wpAnyZ_take (i := 0) (v := ?_) rfl (by kernel_rfl) (by kernel_rfl) (by kernel_rfl) (by kernel_rfl) (fun _ _ _ h => h) (Or.inl ⟨by first | kernel_rfl | rfl, ?_⟩) (by assumption) ?_
      rotate_left
      · intro w hSw; (try dsimp only at hSw); go_simp; (try with_reducible rfl)
      (try simp only [Act.put, List.getElem_toArray, List.getElem_cons_succ, List.getElem_cons_zero, List.setIfInBounds_toArray, List.set_cons_zero, List.set_cons_succ])
      refine wpAnyZ_take (i := 1) (v := ?_) rfl (by kernel_rfl) (by kernel_rfl) (by kernel_rfl) (by kernel_rfl) (fun _ _ _ h => h) (Or.inl ⟨by first | kernel_rfl | rfl, ?_⟩) (by assumption) ?_
      rotate_left
      · intro w hSw; (try dsimp only at hSw); go_simp; (try with_reducible rfl)
      (try simp only [Act.put, List.getElem_toArray, List.getElem_cons_succ, List.getElem_cons_zero, List.setIfInBounds_toArray, List.set_cons_zero, List.set_cons_succ])
      refine wpAnyZ_take (i := 2) (v := ?_) rfl (by kernel_rfl) (by kernel_rfl) (by kernel_rfl) (by kernel_rfl) (fun _ _ _ h => h) (Or.inl ⟨by first | kernel_rfl | rfl, ?_⟩) (by assumption) ?_
      rotate_left
      · intro w hSw; (try dsimp only at hSw); go_simp; (try with_reducible rfl)
      (try simp only [Act.put, List.getElem_toArray, List.getElem_cons_succ, List.getElem_cons_zero, List.setIfInBounds_toArray, List.set_cons_zero, List.set_cons_succ])
      refine wpAnyZ_take (i := 3) (v := ?_) rfl (by kernel_rfl) (by kernel_rfl) (by kernel_rfl) (by kernel_rfl) (fun _ _ _ h => h) (Or.inl ⟨by first | kernel_rfl | rfl, ?_⟩) (by assumption) ?_
      rotate_left
      · intro w hSw; (try dsimp only at hSw); go_simp; (try with_reducible rfl)
      (try simp only [Act.put, List.getElem_toArray, List.getElem_cons_succ, List.getElem_cons_zero, List.setIfInBounds_toArray, List.set_cons_zero, List.set_cons_succ])
      refine wpAnyZ_take (i := 4) (v := ?_) rfl (by kernel_rfl) (by kernel_rfl) (by kernel_rfl) (by kernel_rfl) (fun _ _ _ h => h) (Or.inl ⟨by first | kernel_rfl | rfl, ?_⟩) (by assumption) ?_
      rotate_left
      · intro w hSw; (try dsimp only at hSw); go_simp; (try with_reducible rfl)
      (try simp only [Act.put, List.getElem_toArray, List.getElem_cons_succ, List.getElem_cons_zero, List.setIfInBounds_toArray, List.set_cons_zero, List.set_cons_succ])
      refine wpAnyZ_take (i := 5) (v := ?_) rfl (by kernel_rfl) (by kernel_rfl) (by kernel_rfl) (by kernel_rfl) (fun _ _ _ h => h) (Or.inl ⟨by first | kernel_rfl | rfl, ?_⟩) (by assumption) ?_
      rotate_left
      · intro w hSw; (try dsimp only at hSw); go_simp; (try with_reducible rfl)
      (try simp only [Act.put, List.getElem_toArray, List.getElem_cons_succ, List.getElem_cons_zero, List.setIfInBounds_toArray, List.set_cons_zero, List.set_cons_succ])
      refine wpAnyZ_take (i := 6) (v := .slice A6 (OneAt (l.take k) x1).length c6) rfl (by kernel_rfl) (by kernel_rfl) (by kernel_rfl) (by kernel_rfl) (fun _ _ _ h => h) (yieldsIf_lookup (by first | kernel_rfl | rfl) rfl rfl rfl (fun W hS => HLOOK.out W hS.2)) (by assumption) ?_
      (try simp only [Act.put, List.getElem_toArray, List.getElem_cons_succ, List.getElem_cons_zero, List.setIfInBounds_toArray, List.set_cons_zero, List.set_cons_succ])
      refine wpAnyZ_take (i := 7) (v := ?_) rfl (by kernel_rfl) (by kernel_rfl) (by kernel_rfl) (by kernel_rfl) (fun _ _ _ h => h) (Or.inl ⟨by first | kernel_rfl | rfl, ?_⟩) (by assumption) ?_
      rotate_left
      · intro w hSw; (try dsimp only at hSw); go_simp; (try with_reducible rfl)
      (try simp only [Act.put, List.getElem_toArray, List.getElem_cons_succ, List.getElem_cons_zero, List.setIfInBounds_toArray, List.set_cons_zero, List.set_cons_succ])
      rw [hwA]
      refine wpAnyZ_ready (i := 8) (by kernel_rfl) rfl (fun K hK => ?_)
      go_simp
      have hSb : ((wA.alloc (.cells #[.int .i64 x1, .int .i64 x2, .int .i64 x3, .int .i64 x4] 70)).cell? ⟨wr.heap.size, 0, none⟩ = some (.int .i64 x1) ∧ (wA.alloc (.cells #[.int .i64 x1, .int .i64 x2, .int .i64 x3, .int .i64 x4] 70)).cell? ⟨wr.heap.size, 1, none⟩ = some (.int .i64 x2) ∧ (wA.alloc (.cells #[.int .i64 x1, .int .i64 x2, .int .i64 x3, .int .i64 x4] 70)).cell? ⟨wr.heap.size, 2, none⟩ = some (.int .i64 x3) ∧ (wA.alloc (.cells #[.int .i64 x1, .int .i64 x2, .int .i64 x3, .int .i64 x4] 70)).cell? ⟨wr.heap.size, 3, none⟩ = some (.int .i64 x4)) ∧ (wA.alloc (.cells #[.int .i64 x1, .int .i64 x2, .int .i64 x3, .int .i64 x4] 70)).heap[w.heap.size + 1]? = wA.heap[w.heap.size + 1]? :=
        ⟨⟨cellAlloc _ hA0, cellAlloc _ hA1, cellAlloc _ hA2, cellAlloc _ hA3⟩, Below.heap_alloc _ _ _ hmA⟩
      refine hK.out _ _ (hSb) (fun hHeld => ?_)
      clear hK K
      (try simp only [Act.put, List.getElem_toArray, List.getElem_cons_succ, List.getElem_cons_zero, List.setIfInBounds_toArray, List.set_cons_zero, List.set_cons_succ])
      refine wpAnyZ_ready (i := 9) (by kernel_rfl) rfl (fun K hK => ?_)
      refine step_pushG rfl _ _ 66 rfl w3.heap.size 70 i0 _ 4 32 Tryz.underlying66 hi hz0 hz1 hz2 rfl (by decide) HOWN6.out rfl [.int .i64 x1, .int .i64 x2, .int .i64 x3, .int .i64 x4] 70 rfl rfl (by simp [Value.oneCell']) (by omega) (by decide) hbA ?_
      intro A9 c9 w9 HO9 HG9 HN9
      have hmA6 : ownA A6 ≠ some (w.heap.size + 1) := fun e => by
        have h1 := (own_ty HOWN6.out e).1
        have h3 := HS3.out
        omega
      have hbA6 : ownA A6 ≠ some wr.heap.size := fun e => by
        have h1 := (HL6b.out _ e).2
        omega
      have h9m : w9.heap[w.heap.size + 1]? = wA.heap[w.heap.size + 1]? := (HG9.out.block _ (by simp; omega) (fun e => hmA6 e.symm)).trans hSb.2
      have h9c := hSb.1
      have h9c : w9.cell? ⟨wr.heap.size, 0, none⟩ = some (.int .i64 x1) ∧ w9.cell? ⟨wr.heap.size, 1, none⟩ = some (.int .i64 x2) ∧ w9.cell? ⟨wr.heap.size, 2, none⟩ = some (.int .i64 x3) ∧ w9.cell? ⟨wr.heap.size, 3, none⟩ = some (.int .i64 x4) :=
        ⟨HG9.out.cell hSb.1.1 (fun e => hbA6 e.symm), HG9.out.cell hSb.1.2.1 (fun e => hbA6 e.symm), HG9.out.cell hSb.1.2.2.1 (fun e => hbA6 e.symm), HG9.out.cell hSb.1.2.2.2 (fun e => hbA6 e.symm)⟩
      refine hK.out _ _ (⟨h9c, h9m⟩) (fun hHeld => ?_)
      clear hK K
      (try simp only [Act.put, List.getElem_toArray, List.getElem_cons_succ, List.getElem_cons_zero, List.setIfInBounds_toArray, List.set_cons_zero, List.set_cons_succ])
      have hkeyF : keyOf Tryz.prog 3 (.int .i64 x1) = some (.int .i64 x1) := Maps.keyOf_int_mk Tryz.underlying3 (by
        have := HPW.out.1; unfold I64 at this
        simp [Lit.wf, IntKind.min, IntKind.max, IntKind.signed, IntKind.bits]; omega)
      obtain ⟨wB, hrun, hMB, hGB, hSB⟩ := (HMPA.out.mp.same h9m).put (Maps.int_keyed Tryz.underlying3) Tryz.underlying308 (by rw [List.length_map]; unfold maxLen; omega) (.slice A9 ((OneAt (l.take k) x1).length + 1) c9) hkeyF
      obtain ⟨L2, hMP2, hfr2, hsz2, hbel2, hL2⟩ := HMPA.out.step (W7 := wA) (x := ((x1, x2, x3, x4) : PartL)) (by have := HS3.out; omega) hbA (Below.refl _ _) HL6.out HO9.out HG9.out HN9.out (by
        have e : ival ((A9, c9, OneAt (l.take k) x1 ++ [((x1, x2, x3, x4) : PartL)]) : Item PartL) = .slice A9 ((OneAt (l.take k) x1).length + 1) c9 := by simp [ival]
        rw [e]; exact hMB) hGB
      have HMP2 : Hid (MapRw 70 4 partC (w.heap.size + 1) w3.heap.size (OneAt (l.take (k + 1))) L2 wB) := Lib.hid (by
        have e : OneAt (l.take (k + 1)) = putG (OneAt (l.take k)) x1 (x1, x2, x3, x4) := by
          funext m
          rw [take_snoc? HX.out, oneAt_snoc]
          rfl
        rw [e]; exact hMP2)
      have HPL2 : Hid (wB.ownsRow w3.heap.size 3 1 (.slice PB (plV (l.take (k + 1))).length qc) (plV (l.take (k + 1))).length ((plV (l.take (k + 1))).map (Value.int .i64))) := Lib.hid (own_keep HPLA.out fun j hj => by
        have h1 := own_ty HPLA.out hj
        have h3 := HS3.out
        have h4 := HG9.out.size
        simp at h4
        exact (hGB.block j (by omega) (fun e => by injection e with e; omega)).trans ((HG9.out.block j (by simp; omega) (fun e => own_apart HPLA.out HOWN6.out tyIP2 j hj e.symm)).trans (Below.heap_alloc _ _ _ h1.2.1)))
      have HFR2 : Hid (w3.heap.size ≤ wB.heap.size ∧ Below (w.heap.size + 1) w1 wB) := Lib.hid ⟨Nat.le_trans hbA hsz2, HFA.out.2.1.trans (hbel2 (w.heap.size + 1) (Nat.le_refl _) (by omega))⟩
      refine wpAnyZ_last (i := 10) rfl (by kernel_rfl) (by kernel_rfl) rfl (fun K hK => ?_)
      refine wp_mapUpdate rfl rfl rfl rfl hrun ?_
      refine hK.out _ _ ?_
      have hlL : L2.length ≤ k + 1 := by omega
      have HLT := Lib.hid hlt
      clear hHeld hK K hrun hMB hGB hSB hMP2 hfr2 hsz2 hbel2 hL2 h9m h9c hSb hmA6 hbA6 hA0 hA1 hA2 hA3 hwA hlt hbs hmA hbA hkeyF hX
      (try simp only [Act.put, List.getElem_toArray, List.getElem_cons_succ, List.getElem_cons_zero, List.setIfInBounds_toArray, List.set_cons_zero, List.set_cons_succ])
      go_wp2_with fail
      go_roundw
      case rel => exact ⟨k + 1, L2, PB, qc, by have := HLT.out; omega, by go_num, rfl, hlL, HMP2, HPL2, HFR2⟩
      case measure => have := HLT.out; simp [intOf]; omega
  obtain rfl : k = l.length := by omega
  rw [List.take_length] at HMP HPL
  rw [List.take_length]
  obtain ⟨P, hP⟩ : ∃ P, plV l = P := ⟨_, rfl⟩
  rw [hP] at HPL
  rw [hP]
  have HPE := Lib.hid hP
  have hP4 : P.length ≤ 4 := by rw [← hP]; exact Nat.le_trans (plV_len l) hl4
  have HPB : Hid (∀ a ∈ P, 0 ≤ a ∧ a < (O.length : Int)) := Lib.hid fun a ha => by
    rw [← hP] at ha
    obtain ⟨p, hp, rfl⟩ := (plV_mem l a).1 ha
    exact ⟨(hpo.out p hp).1, (hpo.out p hp).2.1⟩
  have hOl := (HB.out _ HKr.out.now.2).2
  have HKb := Lib.hid (HKr.out.add (Below.refl _ _) (G := fun W => MapRw 70 4 partC (w.heap.size + 1) w3.heap.size (OneAt l) L W ∧ IntsAt PA P W) fun W hW => ⟨HMP.out.below hW, by
    refine ⟨?_, fun x hx => ?_, by omega⟩
    · have h1 : Sl wr 1 PA P.length (P.map (Value.int .i64)) := Sl.of_own HPL.out
      have h2 := h1.below (B := 0) hW
      rwa [List.map_eq_flatMap] at h2
    · have h1 := HPB.out x hx
      unfold I64; omega⟩)
  obtain ⟨F3, hF3⟩ : ∃ G : World → Prop, (fun W => (MapRw 70 4 partC (w.heap.size + 1) w3.heap.size (OneAt l) L W ∧ IntsAt PA P W) ∧ BoxC w.heap.size [.int .i64 b, .int .i64 d, .int .i64 t, .int .i64 u, .int .i64 s, .slice A l.length c] W ∧ F W) = G := ⟨_, rfl⟩
  have HF3 : Hid (∀ W, F3 W → (MapRw 70 4 partC (w.heap.size + 1) w3.heap.size (OneAt l) L W ∧ IntsAt PA P W) ∧ BoxC w.heap.size [.int .i64 b, .int .i64 d, .int .i64 t, .int .i64 u, .int .i64 s, .slice A l.length c] W ∧ F W) := Lib.hid fun W h => by rw [← hF3] at h; exact h
  rw [hF3] at HKb
  have hc4 := (HF3.out _ HKb.out.now).2.1 4 _ rfl
  have hd : decide (l.length < l.length) = false := by simp
  have hs1 := HSS.out.1
  have hs2 := HSS.out.2
  clear hF3 hP HPL HMP hLk hbs hlt HKr HFR hOl
  go_wp2_with fail
  have HK3 := St.lit HKb (s, s) (by intro p hp; simp at hp; subst hp; simp; omega)
  clear hc4 hd
  go_loopw [10, 55] (fun ov iv wr2 => ∃ (k : Nat) (A1 : Option Addr) (c1 : Nat) (r1 : List Sp), k ≤ P.length ∧ iv = .int .i64 k ∧ ov = .slice A1 r1.length c1 ∧ Hid (Rep r1 (OutJ s l (bodies O) (P.take k))) ∧ Hid (St w0 wr2 (fun W => Lst A1 r1 W ∧ F3 W))) (fun _ iv _ => P.length - (intOf iv).toNat)
  case atStart =>
    refine ⟨0, _, 1, [(s, s)], Nat.zero_le _, rfl, rfl, Lib.hid ⟨by simp [Plain, PlainF]; omega, fun v => ?_⟩, HK3⟩
    rw [List.take_zero, outJ_zero (win_ex hO.out)]
    simp only [InS, or_false]
    omega
  case round =>
  clear HK3
  obtain ⟨k, A1, c1, r1, hk, rfl, rfl, HR1, HK1⟩ := hrel
  by_cases hlt : k < P.length
  · have hF := HF3.out _ HK1.out.now.2
    obtain ⟨qb, qo, at_, rfl, hx, _, hxc⟩ := hF.1.2.at_ hlt
    obtain ⟨ha0, ha1⟩ := HPB.out at_ (List.mem_of_getElem? hx)
    obtain ⟨a, rfl⟩ := Int.eq_ofNat_of_zero_le ha0
    have hal : a < O.length := by omega
    obtain ⟨gb, off, ba, bc, g, rfl, _, hg, hc, hl⟩ := (HB.out _ hF.2.2).at_ hal
    obtain ⟨A6, c6, _, hown6, hlook⟩ := hF.1.1.look (mt := 308) (et := 66) (n := (a : Int)) (by have := (HB.out _ hF.2.2).2; unfold I64; omega) Tryz.underlying308 (fun W => Tryz.zeroValue66 W)
    have HLOOK := Lib.hid hlook
    have HX := Lib.hid hx
    have HG := Lib.hid hg
    have HGO : Hid (g ≠ [] ∧ Plain g ∧ ∀ x, InS g x → 0 ≤ x ∧ x ≤ 1114111) := Lib.hid (hO.out g (List.mem_of_getElem? hg))
    have HGR : Hid (∀ x, Mem g x → 0 ≤ x ∧ x ≤ 1114111) := Lib.hid fun x hx => HGO.out.2.2 x ((HGO.out.2.1.mem x).1 hx)
    have haP : (a : Int) ∈ P := List.mem_of_getElem? hx
    have hone : OneAt l a ≠ [] := oneAt_ne (by rw [HPE.out]; exact haP)
    have ho4 : (OneAt l a).length ≤ 4 := Nat.le_trans (oneAt_len l a) hl4
    have HB1 : Hid (∀ p ∈ OneAt l a, bitsB p.2.1 p.2.2.1 p.2.2.2 = true) := Lib.hid fun p hp => HBI.out p (oneAt_sub hp).1
    have hpw : ∀ p ∈ OneAt l a, PartW p := fun p hp => (HP.out _ hF.2.2).it p (oneAt_sub hp).1
    have HKs := Lib.hid (HK1.out.add (Below.refl _ _) (G := fun W => PartsAt A6 (OneAt l a) W ∧ Lst ba g W) fun W hW => ⟨⟨(Sl.of_own hown6).below (B := 0) hW, hpw, by omega⟩, hl.below hW⟩)
    obtain ⟨r7, HR7⟩ : ∃ r, Hid (Rep r (TogS (OneAt l a) g)) := rep_all _ fun v hv => by have := togS_bd ho4 hv; omega
    have hnd : (P.take k ++ [(a : Int)]).Nodup := by
      rw [← take_snoc? hx]
      have h1 : P.Nodup := by rw [← HPE.out]; exact plV_nodup l
      exact h1.sublist (List.take_sublist _ _)
    have HND : Hid ((P.take k ++ [(a : Int)]).Nodup) := Lib.hid hnd
    have HNX : Hid (∀ v, OutJ s l (bodies O) (P.take (k + 1)) v ↔ SumS (Mem r1) (Mem r7) v) := Lib.hid fun v => by
      rw [take_snoc? HX.out, outJ_next HG.out HGR.out (fun a ha => (HPB.out a (List.mem_of_mem_take ha)).1) (fun h => by
        have := (List.nodup_append.1 HND.out).2.2 _ h _ (List.mem_singleton.2 rfl)
        exact this rfl)]
      unfold SumS
      constructor
      · rintro ⟨x, y, h1, h2, e⟩; exact ⟨x, y, (HR1.out.mem x).2 h1, (HR7.out.mem y).2 h2, e⟩
      · rintro ⟨x, y, h1, h2, e⟩; exact ⟨x, y, (HR1.out.mem x).1 h1, (HR7.out.mem y).1 h2, e⟩
    have HBD : Hid (∀ v, SumS (Mem r1) (Mem r7) v → -1073741824 ≤ v ∧ v ≤ 1073741824) := Lib.hid fun v hv => by
      have h1 := (HNX.out v).2 hv
      rw [take_snoc? HX.out] at h1
      have := outJ_bd HSS.out hl4 HND.out h1
      omega
    obtain ⟨r8, HR8⟩ : ∃ r, Hid (Rep r (SumS (Mem r1) (Mem r7))) := rep_all _ HBD.out
    have HR8' : Hid (Rep r8 (OutJ s l (bodies O) (P.take (k + 1)))) := Lib.hid (HR8.out.congr fun v => (HNX.out v).symm)
    have HP1 := Lib.hid HR1.out.1
    have HP7 := Lib.hid HR7.out.1
    have HPG := Lib.hid HGO.out.2.1
    have hmW := hF.1.1.mp.lt
    clear hF hx hg hl hown6 hlook haP hpw hnd ha0
    go_wp2_with fail
    have HKd := St.hdrewN HKs 1
    refine wp_region_Z 10 (by kernel_rfl) (fun W => W.cell? ⟨gb, off + a, none⟩ = some (.slice ba g.length bc) ∧ W.heap[w.heap.size + 1]? = wr.heap[w.heap.size + 1]?) ⟨hc, rfl⟩ (fun hHeld => ?_)
    refine wpAnyZ_take (i := 0) (v := ?_) rfl (by kernel_rfl) (by kernel_rfl) (by kernel_rfl) (by kernel_rfl) (fun _ _ _ h => h) (Or.inl ⟨by first | kernel_rfl | rfl, ?_⟩) (by assumption) ?_
    rotate_left
    · intro w hSw; (try dsimp only at hSw); go_simp; (try with_reducible rfl)
    (try simp only [Act.put, List.getElem_toArray, List.getElem_cons_succ, List.getElem_cons_zero, List.setIfInBounds_toArray, List.set_cons_zero, List.set_cons_succ])
    refine wpAnyZ_take (i := 1) (v := ?_) rfl (by kernel_rfl) (by kernel_rfl) (by kernel_rfl) (by kernel_rfl) (fun _ _ _ h => h) (Or.inl ⟨by first | kernel_rfl | rfl, ?_⟩) (by assumption) ?_
    rotate_left
    · intro w hSw; (try dsimp only at hSw); go_simp; (try with_reducible rfl)
    (try simp only [Act.put, List.getElem_toArray, List.getElem_cons_succ, List.getElem_cons_zero, List.setIfInBounds_toArray, List.set_cons_zero, List.set_cons_succ])
    refine wpAnyZ_take (i := 2) (v := ?_) rfl (by kernel_rfl) (by kernel_rfl) (by kernel_rfl) (by kernel_rfl) (fun _ _ _ h => h) (Or.inl ⟨by first | kernel_rfl | rfl, ?_⟩) (by assumption) ?_
    rotate_left
    · intro w hSw; (try dsimp only at hSw); go_simp; (try with_reducible rfl)
    (try simp only [Act.put, List.getElem_toArray, List.getElem_cons_succ, List.getElem_cons_zero, List.setIfInBounds_toArray, List.set_cons_zero, List.set_cons_succ])
    refine wpAnyZ_take (i := 3) (v := .slice A6 (OneAt l a).length c6) rfl (by kernel_rfl) (by kernel_rfl) (by kernel_rfl) (by kernel_rfl) (fun _ _ _ h => h) (yieldsIf_lookup (by first | kernel_rfl | rfl) rfl rfl rfl (fun W hS => HLOOK.out W hS.2)) (by assumption) ?_
    (try simp only [Act.put, List.getElem_toArray, List.getElem_cons_succ, List.getElem_cons_zero, List.setIfInBounds_toArray, List.set_cons_zero, List.set_cons_succ])
    refine wpAnyZ_take (i := 4) (v := ?_) rfl (by kernel_rfl) (by kernel_rfl) (by kernel_rfl) (by kernel_rfl) (fun _ _ _ h => h) (Or.inl ⟨by first | kernel_rfl | rfl, ?_⟩) (by assumption) ?_
    rotate_left
    · intro w hSw; (try dsimp only at hSw); go_simp; (try with_reducible rfl)
    (try simp only [Act.put, List.getElem_toArray, List.getElem_cons_succ, List.getElem_cons_zero, List.setIfInBounds_toArray, List.set_cons_zero, List.set_cons_succ])
    refine wpAnyZ_take (i := 5) (v := ?_) rfl (by kernel_rfl) (by kernel_rfl) (by kernel_rfl) (by kernel_rfl) (fun _ _ _ h => h) (Or.inl ⟨by first | kernel_rfl | rfl, ?_⟩) (by assumption) ?_
    rotate_left
    · intro w hSw; (try dsimp only at hSw); go_simp; (try with_reducible rfl)
    (try simp only [Act.put, List.getElem_toArray, List.getElem_cons_succ, List.getElem_cons_zero, List.setIfInBounds_toArray, List.set_cons_zero, List.set_cons_succ])
    refine wpAnyZ_take (i := 6) (v := ?_) rfl (by kernel_rfl) (by kernel_rfl) (by kernel_rfl) (by kernel_rfl) (fun _ _ _ h => h) (Or.inl ⟨by first | kernel_rfl | rfl, ?_⟩) (by assumption) ?_
    rotate_left
    · intro w hSw; (try dsimp only at hSw); go_simp; (try with_reducible rfl)
    (try simp only [Act.put, List.getElem_toArray, List.getElem_cons_succ, List.getElem_cons_zero, List.setIfInBounds_toArray, List.set_cons_zero, List.set_cons_succ])
    refine wpAnyZ_take (i := 7) (v := ?_) rfl (by kernel_rfl) (by kernel_rfl) (by kernel_rfl) (by kernel_rfl) (fun _ _ _ h => h) (Or.inl ⟨by first | kernel_rfl | rfl, ?_⟩) (by assumption) ?_
    rotate_left
    · intro w hSw; (try dsimp only at hSw); go_simp; (try with_reducible rfl)
    (try simp only [Act.put, List.getElem_toArray, List.getElem_cons_succ, List.getElem_cons_zero, List.setIfInBounds_toArray, List.set_cons_zero, List.set_cons_succ])
    refine wpAnyZ_ready (i := 8) (by kernel_rfl) rfl (fun K hK => ?_)
    go_simp
    refine (together_st (St.here HKd) (fun _ h => h.1.1) (fun _ h => h.1.2) c6 bc HB1 hone ho4 HPG HGR HR7).mono ?_
    rintro e w7 ⟨A7, c7, rfl, HK7⟩
    have hb7 : Below wr.heap.size wr w7 := below_to (below_drewN (Below.refl _ _) 1) HK7.out.2
    refine hK.out _ _ (⟨(hb7.cell (lt_of_cell hc)).trans hc, hb7.block _ hmW⟩) (fun hHeld => ?_)
    clear hK K
    (try simp only [Act.put, List.getElem_toArray, List.getElem_cons_succ, List.getElem_cons_zero, List.setIfInBounds_toArray, List.set_cons_zero, List.set_cons_succ])
    refine wpAnyZ_ready (i := 9) (by kernel_rfl) rfl (fun K hK => ?_)
    go_simp
    refine (plus_st HK7 (fun _ h => h.2.2.1) (fun _ h => h.1) c1 c7 HP1 HP7 HBD HR8).mono ?_
    rintro e w8 ⟨A8, c8, rfl, HK8⟩
    have hb8 : Below wr.heap.size wr w8 := below_to (below_drewN (Below.refl _ _) 1) HK8.out.2
    have HKN := Lib.hid (HK1.out.step hb8)
    have HKN : Hid (St w0 w8 (fun W => Lst A8 r8 W ∧ F3 W)) := Lib.hid ⟨fun W hW => ⟨(HK8.out.1 W hW).1, (HK8.out.1 W hW).2.2.2.2⟩, HKN.out.2⟩
    refine hK.out _ _ (⟨(hb8.cell (lt_of_cell hc)).trans hc, hb8.block _ hmW⟩) (fun hHeld => ?_)
    clear hK K
    (try simp only [Act.put, List.getElem_toArray, List.getElem_cons_succ, List.getElem_cons_zero, List.setIfInBounds_toArray, List.set_cons_zero, List.set_cons_succ])
    refine wpAnyZ_last (i := 10) rfl (by kernel_rfl) (by kernel_rfl) rfl (fun K hK => ?_)
    go_simp
    refine hK.out _ _ ?_
    clear hHeld hK K hb7 hb8 hc hmW
    (try simp only [Act.put, List.getElem_toArray, List.getElem_cons_succ, List.getElem_cons_zero, List.setIfInBounds_toArray, List.set_cons_zero, List.set_cons_succ])
    go_wp2_with fail
    go_roundw
    case rel => exact ⟨k + 1, A8, c8, r8, by omega, by go_num, rfl, HR8', HKN⟩
    case measure => simp [intOf]; omega
  · obtain rfl : k = P.length := by omega
    have hd : decide (P.length < P.length) = false := by simp
    have HRI : Hid (Rep r1 (InnS ⟨b, d, t, u, s, l⟩ (bodies O))) := Lib.hid (by
      have h := HR1.out
      rw [List.take_length, ← HPE.out] at h
      exact h.congr fun v => outJ_all ⟨b, d, t, u, s, l⟩ (bodies O) v)
    obtain rfl := Rep.unique HRI.out hr.out (fun _ => Iff.rfl)
    have hne : r1 ≠ [] := fun e => by
      obtain ⟨w', hw'⟩ := win_ex hO.out
      have := (HRI.out.2 (innerT ⟨b, d, t, u, s, l⟩ w')).2 ⟨w', hw', rfl⟩
      rw [e] at this; exact this
    have hpos : decide (0 < r1.length) = true := by simpa using List.length_pos_iff.2 hne
    obtain ⟨x0, hx0⟩ : ∃ x, nthS r1 0 = some x := by
      rcases e : r1 with _ | ⟨p, r2⟩
      · exact absurd e hne
      · have hp := HRI.out.1; rw [e] at hp; exact ⟨_, nthS_first hp⟩
    obtain ⟨x1, hx1⟩ : ∃ x, nthS r1 (cnt r1 - 1) = some x := by
      rcases last_cases r1 with e | ⟨m, q, e⟩
      · exact absurd e hne
      · have hp := HRI.out.1; rw [e] at hp ⊢; exact ⟨_, nthS_last hp⟩
    have HIF := Lib.hid (inRange_iff HRI.out hx0 hx1)
    have HX0 : Hid (optD (nthS r1 0) = x0 ∧ optB (nthS r1 0) = true) := Lib.hid (by rw [hx0]; exact ⟨rfl, rfl⟩)
    have HX1 : Hid (optD (nthS r1 (cnt r1 - 1)) = x1 ∧ optB (nthS r1 (cnt r1 - 1)) = true) := Lib.hid (by rw [hx1]; exact ⟨rfl, rfl⟩)
    have HSF : Hid (Rep r1 (Mem r1)) := Lib.hid (Rep.self HRI.out.1)
    clear hlt hne hx0 hx1
    go_wp2_with fail
    refine (First_st HK1 (fun _ h => h.1) _ HSF HX0.out.1 HX0.out.2).mono ?_
    rintro e w4 ⟨rfl, HK4⟩
    go_wp2_with fail
    refine (Last_st HK4 (fun _ h => h.1) _ HSF HX1.out.1 HX1.out.2).mono ?_
    rintro e w5 ⟨rfl, HK5⟩
    have HFIN := Lib.hid (HK5.out.weaken (G := fun W => Lst A1 r1 W ∧ F W) fun W h => ⟨h.1, (HF3.out W h.2).2.2⟩)
    by_cases g0 : 0 ≤ x0
    case neg =>
      obtain rfl := pB_f hok (fun h => g0 (HIF.out.1 h).1)
      go_wp2_with fail
      go_ret2
      exact ⟨_, _, rfl, HFIN⟩
    by_cases g1 : x1 ≤ 1114111
    · obtain rfl := pB_t hok (HIF.out.2 ⟨g0, g1⟩)
      go_wp2_with fail
      go_ret2
      exact ⟨_, _, rfl, HFIN⟩
    · obtain rfl := pB_f hok (fun h => g1 (HIF.out.1 h).2)
      have g2 : decide (x1 ≤ 1114111) = false := by simpa using g1
      go_wp2_with fail
      go_ret2
      exact ⟨_, _, rfl, HFIN⟩
end
end Go.Proofs.YtlmkokeapbleoaaGreat
end
section
namespace Go.Proofs.YtlmkokeapbleoaaGreat
open Go.RowKit
section
variable {w0 w : World} {F : World → Prop}
theorem symbols_st (hK : Hid (St w0 w F)) : Calls Tryz.prog 241 #[] w (RetL w0 [(0, 1114111)] F) := by
  go_enter Tryz.func241, Tryz.ntmps241
  go_wp2_with fail
  go_ret
  exact ⟨_, 1, rfl, St.lit hK (0, 1114111) (by intro p hp; simp at hp; subst hp; simp)⟩
def SymNe (gs : List (List Sp)) (k : Nat) : Prop := ∀ g ∈ gs.take k, symL g ≠ []
theorem symNe_next {gs : List (List Sp)} {k : Nat} {g : List Sp} (h : gs[k]? = some g) : SymNe gs (k + 1) ↔ (SymNe gs k ∧ symL g ≠ []) := by
  unfold SymNe
  rw [take_snoc? h]
  constructor
  · intro q; exact ⟨fun x hx => q x (List.mem_append.2 (.inl hx)), q g (by simp)⟩
  · rintro ⟨q1, q2⟩ x hx
    rcases List.mem_append.1 hx with hx | hx
    · exact q1 x hx
    · simp at hx; subst hx; exact q2
theorem inner_st (hK : Hid (St w0 w F)) {A : Option Addr} {l : List PartL} (hp : ∀ W, F W → PartsAt A l W) (b d t u s : Int) (c : Nat) {B : Option Addr} {O : List (Item Sp)} (hb : ∀ W, F W → LLx B O W) (cb : Nat)
    (h4 : O.length ≤ 4) (hn : Hid (NumsOk ⟨b, d, t, u, s, l⟩)) (hpo : Hid (∀ p ∈ l, PartOk O.length p)) (r : List Sp) (hr : Hid (Rep r (InnS ⟨b, d, t, u, s, l⟩ (bodies O)))) (ok : Bool) (hok : Hid (pB (InRange ⟨b, d, t, u, s, l⟩ (bodies O)) = ok)) (hst : StageP l) :
    Calls Tryz.prog 228 #[.agg #[.int .i64 b, .int .i64 d, .int .i64 t, .int .i64 u, .int .i64 s, .slice A l.length c], .slice B O.length cb] w (RetLB2 w0 r ok F) := by
  have HP := Lib.hid hp
  have HB := Lib.hid hb
  have hl4 : l.length ≤ 4 := hn.out.2.2.2.2
  have h4' : (O.length : Int) ≤ 4 := by omega
  have HK := St.box hK [.int .i64 b, .int .i64 d, .int .i64 t, .int .i64 u, .int .i64 s, .slice A l.length c] 68
  have HN := Lib.hid (pB_true hn.out)
  obtain ⟨q0, q1, q2, q3, q4, q5⟩ := HK.out.now.1.c6
  have hmk : ∀ w : World, (Instr.makeSlice 29 (.int .i64 (O.length : Int)) (.int .i64 (O.length : Int))).run Tryz.prog w = .ok (.slice (some ⟨w.heap.size, 0, none⟩) O.length O.length) (w.alloc (.cells (madeCells #[.slice none 0 0] O.length) 103)) := fun w => run_make_row' 29 103 (.slice none 0 0) 24 Tryz.underlying29 infoHdy rfl .i64 .i64 O.length (by omega) (by omega) w
  clear hp hb
  go_enter Tryz.func228, Tryz.ntmps228
  go_wp2_with fail
  refine (numbers_st HK (fun _ h => HP.out _ h.2) b d t u s c true HN).mono ?_
  rintro e w3 ⟨rfl, HK3⟩
  clear q0 q1 q2 q3 q4 q5 HK
  go_wp2_with fail
  clear hmk
  go_loopw [6, 25] (fun sv iv wr => ∃ (k : Nat) (sb : Bool) (Q : List (Item Sp)), k ≤ O.length ∧ iv = .int .i64 k ∧ sv = .bool sb ∧ Q.length = O.length ∧ Hid (pB (SymNe (bodies O) k) = sb) ∧ Hid (bodies Q = ((bodies O).map symL).take k ++ List.replicate (O.length - k) []) ∧ Hid (RwB w3.heap.size w3.heap.size Q wr) ∧ Hid (Below w3.heap.size w3 wr)) (fun _ iv _ => O.length - (intOf iv).toNat)
  case atStart =>
    refine ⟨0, true, List.replicate O.length (none, 0, []), Nat.zero_le _, rfl, rfl, by simp, Lib.hid (pB_true fun g hg => by simp at hg), Lib.hid (by simp [bodies]), Lib.hid ?_, Lib.hid ?_⟩
    · exact RwB.start w3 O.length
    · exact (Below.refl _ _).alloc (Nat.le_refl _) _
  case round =>
  obtain ⟨k, sb, Q, hk, rfl, rfl, hQl, HS, HQ, HRW, HBL⟩ := hrel
  have HKr : Hid (St w0 wr (fun W => BoxC w.heap.size [.int .i64 b, .int .i64 d, .int .i64 t, .int .i64 u, .int .i64 s, .slice A l.length c] W ∧ F W)) := Lib.hid (HK3.out.step HBL.out)
  by_cases hlt : k < O.length
  · obtain ⟨gb, off, ga, gc, g, rfl, _, hg, hc, hl⟩ := (HB.out _ HKr.out.now.2).at_ hlt
    have HG := Lib.hid hg
    have HKi := Lib.hid (HKr.out.add (Below.refl _ _) (G := Lst ga g) (fun W hW => hl.below hW))
    have hsz : w3.heap.size ≤ wr.heap.size := by have := HBL.out.size; omega
    have HRS : Hid (Rep (symL g) (fun x => Mem g x ∧ Mem [(0, 1114111)] x)) := Lib.hid (symL_rep g)
    obtain ⟨sl, hsl⟩ : ∃ z, symL g = z := ⟨_, rfl⟩
    rw [hsl] at HRS
    have HSL := Lib.hid hsl
    have HNX := Lib.hid (symNe_next hg)
    have hnew : (bodies (Q.set k (none, 0, sl))) = ((bodies O).map symL).take (k + 1) ++ List.replicate (O.length - (k + 1)) [] := by
      have hG2 : ((bodies O).map symL)[k]? = some sl := by rw [List.getElem?_map, hg, ← hsl]; rfl
      have e := fill_set hG2
      rw [List.length_map, bodies_length, ← HQ.out] at e
      rw [← e]; unfold bodies; rw [List.map_set]
    have HNEW := Lib.hid hnew
    have hkq : k < Q.length := by omega
    clear hg hl hsl hnew
    go_wp2_with fail
    refine (symbols_st (St.here HKi)).mono ?_
    rintro e w4 ⟨A4, c4, rfl, HK4⟩
    go_wp2_with fail
    refine (Meet_stD HK4 (fun _ h => h.2.1) (fun _ h => h.1) gc c4 HRS).mono ?_
    rintro e w5 ⟨A5, c5, rfl, HD5, HK5, HB5⟩
    have HD6 := Lib.hid (HD5.out.mono (P' := fun k => wr.heap.size ≤ k) fun k hp _ => Nat.le_trans HK4.out.2.size hp)
    have HRN := Lib.hid (HRW.out.set (by omega) HK5.out.2 (i := k) (c := c5) HD6.out)
    obtain ⟨vc, hvc, hvf⟩ := (HRW.out.below HK5.out.2).cell hkq
    have hcs : (w5.setCell ⟨w3.heap.size, k, none⟩ (.slice A5 sl.length c5)).cell? ⟨w3.heap.size, k, none⟩ = some (.slice A5 sl.length c5) := World.cell?_setCell_same _ _ _ hvc
    have HBN : Hid (Below w3.heap.size w3 (w5.setCell ⟨w3.heap.size, k, none⟩ (.slice A5 sl.length c5))) := Lib.hid ((HBL.out.trans (HK5.out.2.mono hsz)).setCell (Nat.le_refl _) _)
    have HQN : Hid (bodies (Q.set k (A5, c5, sl)) = ((bodies O).map symL).take (k + 1) ++ List.replicate (O.length - (k + 1)) []) := Lib.hid (by
      rw [← HNEW.out]; unfold bodies; rw [List.map_set, List.map_set])
    have hQl2 : (Q.set k (A5, c5, sl)).length = O.length := by rw [List.length_set]; exact hQl
    have HQl2 := Lib.hid hQl2
    have HLT := Lib.hid hlt
    have hkO : (k : Int) < (O.length : Int) := by omega
    clear hQl2 hsz hkq hlt hc hQl
    rcases sb with _ | _
    · have HSN : Hid (pB (SymNe (bodies O) (k + 1)) = false) := Lib.hid (pB_false fun h => by
        have h2 := pB_true (HNX.out.1 h).1
        rw [HS.out] at h2; cases h2)
      go_wp2_with fail
      go_roundw
      case rel => exact ⟨k + 1, false, Q.set k (A5, c5, sl), by have := HLT.out; omega, by go_num, rfl, HQl2.out, HSN, HQN, HRN, HBN⟩
      case measure => have := HLT.out; simp [intOf]; omega
    by_cases hn : sl = []
    · subst hn
      have HSN : Hid (pB (SymNe (bodies O) (k + 1)) = false) := Lib.hid (pB_false fun h => (HNX.out.1 h).2 HSL.out)
      go_wp2_with fail
      go_roundw
      case rel => exact ⟨k + 1, false, Q.set k (A5, c5, []), by have := HLT.out; omega, by go_num, rfl, HQl2.out, HSN, HQN, HRN, HBN⟩
      case measure => have := HLT.out; simp [intOf]; omega
    · have hpos : decide (0 < sl.length) = true := by simpa using List.length_pos_iff.2 hn
      have HSN : Hid (pB (SymNe (bodies O) (k + 1)) = true) := Lib.hid (pB_true (HNX.out.2 ⟨pB_iff.1 HS.out, by rw [HSL.out]; exact hn⟩))
      clear hn
      go_wp2_with fail
      go_roundw
      case rel => exact ⟨k + 1, true, Q.set k (A5, c5, sl), by have := HLT.out; omega, by go_num, rfl, HQl2.out, HSN, HQN, HRN, HBN⟩
      case measure => have := HLT.out; simp [intOf]; omega
  · obtain rfl : k = O.length := by omega
    have hd : decide (O.length < O.length) = false := by simp
    have HBQ : Hid (bodies Q = (bodies O).map symL) := Lib.hid (by
      rw [HQ.out, Nat.sub_self, List.replicate_zero, List.append_nil, List.take_of_length_le (by rw [List.length_map, bodies_length]; exact Nat.le_refl _)])
    have HKs := Lib.hid (HKr.out.add (Below.refl _ _) (G := LLx (some ⟨w3.heap.size, 0, none⟩) Q) (fun W hW => (HRW.out.row (Nat.le_refl _) (by omega)).mono (P' := fun _ => True) (fun _ _ _ => trivial) W (fun k _ hk => hW.block k hk)))
    have HSA : Hid (pB (∀ g ∈ bodies O, symL g ≠ []) = sb) := Lib.hid (by
      rw [← HS.out]; unfold SymNe; rw [List.take_of_length_le (by rw [bodies_length]; exact Nat.le_refl _)])
    have hc5 := HKs.out.now.2.1 5 _ rfl
    rw [← hQl]
    have HQl := Lib.hid hQl
    clear hQl HS HQ
    go_wp2_with fail
    clear hc5
    go_loopw [49] (fun iv wr2 => ∃ k : Nat, k ≤ l.length ∧ iv = .int .i64 k ∧ Hid (St w0 wr2 (fun W => LLx (some ⟨w3.heap.size, 0, none⟩) Q W ∧ BoxC w.heap.size [.int .i64 b, .int .i64 d, .int .i64 t, .int .i64 u, .int .i64 s, .slice A l.length c] W ∧ F W))) (fun iv _ => l.length - (intOf iv).toNat)
    case atStart => exact ⟨0, Nat.zero_le _, rfl, HKs⟩
    case round =>
    clear HKs HKr HRW HBL
    obtain ⟨k, hk, rfl, HKs⟩ := hrel
    by_cases hlt : k < l.length
    · obtain ⟨pb, off, p, rfl, hx, hw, hd0, hd1, hd2, hd3⟩ := (HP.out _ HKs.out.now.2.2).at_ hlt
      have H2 := Lib.hid (pB_true (hpo.out p (List.mem_of_getElem? hx)))
      have HKp := St.box HKs [.int .i64 p.1, .int .i64 p.2.1, .int .i64 p.2.2.1, .int .i64 p.2.2.2] 70
      obtain ⟨x1, x2, x3, x4⟩ := p
      simp only at hd0 hd1 hd2 hd3 HKp
      clear hx hw
      rw [HQl.out]
      go_wp2_with fail
      refine (PRight_st HKp x1 x2 x3 x4 O.length true H2).mono ?_
      rintro e w6 ⟨rfl, HK6⟩
      go_wp2_with fail
      go_roundw
      case rel => exact ⟨k + 1, by omega, by go_num, Lib.hid (HK6.out.weaken fun _ h => h.2)⟩
      case measure => simp [intOf]; omega
    · obtain rfl : k = l.length := by omega
      have hd : decide (l.length < l.length) = false := by simp
      rcases sb with _ | _
      · have hno : ∀ w, ¬ WinG (bodies O) w := fun w hw => by
          have h1 : ¬ ∀ g ∈ bodies O, symL g ≠ [] := fun h => by have := pB_true h; rw [HSA.out] at this; cases this
          apply h1
          intro g hg h2
          exact win_none hg h2 w hw
        obtain rfl := pB_t hok (fun v ⟨w, hw, _⟩ => absurd hw (hno w))
        obtain rfl := Rep.unique hr.out (show Rep [] (InnS ⟨b, d, t, u, s, l⟩ (bodies O)) from ⟨by simp [Plain, PlainF], fun v => by
          simp only [InS, false_iff]
          rintro ⟨w, hw, _⟩
          exact hno w hw⟩) (fun _ => Iff.rfl)
        go_wp2_with fail
        go_ret2
        exact ⟨none, 0, rfl, Lib.hid (HKs.out.weaken fun W h => ⟨lst_nil W, h.2.2⟩)⟩
      · have HO : Hid (∀ g ∈ bodies Q, g ≠ [] ∧ Plain g ∧ ∀ x, InS g x → 0 ≤ x ∧ x ≤ 1114111) := Lib.hid fun g hg => by
          rw [HBQ.out] at hg
          obtain ⟨g', hg', rfl⟩ := List.mem_map.1 hg
          refine ⟨pB_iff.1 HSA.out g' hg', (symL_rep g').1, fun x hx => ?_⟩
          exact ((symL_mem g' x).1 (((symL_rep g').1.mem x).2 hx)).2
        have HPQ : Hid (∀ p ∈ l, PartOk Q.length p) := Lib.hid (by rw [HQl.out]; exact hpo.out)
        have HR2 : Hid (Rep r (InnS ⟨b, d, t, u, s, l⟩ (bodies Q))) := Lib.hid (by rw [HBQ.out]; exact hr.out.congr fun v => (innS_sym _ _ v).symm)
        have HOK2 : Hid (pB (InRange ⟨b, d, t, u, s, l⟩ (bodies Q)) = ok) := Lib.hid (by
          rw [← hok.out, HBQ.out]
          exact pB_congr ⟨fun h v hv => h v ((innS_sym _ _ v).2 hv), fun h v hv => h v ((innS_sym _ _ v).1 hv)⟩)
        obtain ⟨q0, q1, q2, q3, q4, q5⟩ := HKs.out.now.2.1.c6
        go_wp2_with fail
        refine (values_st HKs (fun _ h => HP.out _ h.2.2) b d t u s c (fun _ h => h.1) Q.length hn HPQ HO r HR2 ok HOK2 hst).mono ?_
        rintro e w7 ⟨A7, c7, rfl, HK7⟩
        go_wp2_with fail
        go_ret2
        exact ⟨A7, c7, rfl, Lib.hid (HK7.out.weaken fun W h => ⟨h.1, h.2.2.2⟩)⟩
end
end Go.Proofs.YtlmkokeapbleoaaGreat
end
