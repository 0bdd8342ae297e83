/- umlautlaw19.DrivePlays: the call returns true. Condition: the table and the operations are known. -/
import Derived.Test.YtlmkokeapbleoaaGreatRunHelp
namespace Go.Proofs.YtlmkokeapbleoaaGreat
open Go.RowKit Go.Shelf
set_option linter.unusedVariables false
set_option linter.unusedSimpArgs false
theorem ht {P : Program} {md : Region.Mode} {ops : Array Oper} {Q : Exit → Act → World → Prop} {S : World → Prop} (i : Nat) {oi : Oper} {v : Value} {fuel : Nat} {listed : Array Bool} {a : Act} {w : World} (hi : ops[i]? = some oi)
 (hy : ∀ w, S w → (execOp a.eval oi).run P w = .ok (.value v) w) (h : wpAnyH P md ops Q S fuel (listed.setIfInBounds i true) (a.put oi.dst v) w)
 (hs : Region.noSelect ops = true := by kernel_rfl) (hf : Region.free md ops listed i = true := by kernel_rfl) (hr : (Region.ready md ops listed).contains i = true := by kernel_rfl)
 (hQ : ∀ c a w, Q (.panic c) (a.put oi.dst v) w → Q (.panic c) a w := by exact fun _ _ _ h => h) (hwt : Region.wanted oi (yielded ops a.tmps) = true := by first | kernel_rfl | rfl) (hS : S w := by assumption) : wpAnyH P md ops Q S (fuel + 1) listed a w :=
 wpAnyH_take hi hs hf hr hQ (.inl ⟨hwt, hy⟩) hS h
theorem DrvK.wideP {D D' : Nat → Prop} {db : Nat} {cs : Array Value} {T : TabI} {s : DrvS} {ha : Option Addr} {hc : Nat} {W W' : World} (h : DrvK D db cs T s ha hc W) (hb : Below W.heap.size W W') (hD : ∀ k, D k → D' k) (hn : ∀ k, D' k → D k ∨ W.heap.size ≤ k) (hlt : ∀ k, D' k → k < W'.heap.size) : DrvK D' db cs T s ha hc W' :=
 ⟨h.box.keep (hb.block _ h.box.lt), h.tc, h.ok, h.sok, fun V hV => h.dep V ⟨hV.os.trans hb.os, hV.tape.trans hb.tape, hV.output.trans hb.output, Nat.le_trans hb.size hV.size, fun k hk hx => (hV.block k (Nat.lt_of_lt_of_le hk hb.size) (fun e => by
  rcases hn k e with e | e
  ·exact hx e
  ·omega)).trans (hb.block k hk)⟩, hD _ h.mem, hlt⟩
abbrev PD (d m k : Nat) : Prop := k = d ∨ k = m
structure PlI (w : World) (db mb : Nat) (cs cs1 : Array Value) (T T1 : TabI) (s : DrvS) (ha : Option Addr) (hc : Nat) (ra : Option Addr) (rc : Nat) (wr : World) : Prop where
 one : DrvK (PD db mb) db cs1 T1 s ha hc wr
 two : RdB mb (rdV cs s ra rc) wr
 hld : Dep (fun k => ¬ PD db mb k) wr (BytesAt ra s.1.held)
 bel : Below w.heap.size w wr
set_option maxRecDepth 100000 in
set_option maxHeartbeats 64000000 in
theorem DrivePlays_walk (cs : Array Value) (T : TabI) (A : Option Addr) (c : Nat) (l : List OpI) (w : World) (hC : TabC cs T) (hT : TabW T w) (hL : OpsAt A l w) :
  Calls Tryz.prog 11 #[.agg cs, .slice A l.length c] w fun e w' => e = .returned (.bool true) ∧ Below w.heap.size w w' := by
 obtain ⟨wa, hwa⟩ : ∃ z, w.alloc (.cells cs 49) = z := ⟨_, rfl⟩
 have HK1 : Hid (St w wa (fun W => TabBox w.heap.size cs W ∧ TabW T W ∧ OpsAt A l W)) := by rw [← hwa]; exact St.tbox (Lh (St.start fun W hW => ⟨hT.below hW, hL.below hW⟩)) cs
 have HC := Lh hC
 have hs : cs.size = 259 := hC.size
 have HI : Hid ((Tryz.prog.info? 49).map (·.size) = some cs.size) := Lh (by rw [hC.size]; exact info_tabS)
 have hln := hL.ln
 have HLW : Hid (∀ V, Below w.heap.size w V → OpsAt A l V) := Lh fun V hV => hL.below hV
 have HTW : Hid (∀ V, Below w.heap.size w V → TabW T V) := Lh fun V hV => hT.below hV
 obtain ⟨z, hz⟩ : ∃ z, z = zeroR := ⟨_, rfl⟩
 have HZ : Hid ((Tryz.prog.info? 81).map (fun i => i.zero) = some (some (.agg z))) := Lh (by rw [hz]; exact info_refZ)
 have HZS : Hid (z.size = 263) := Lh (by rw [hz]; exact zeroR_size)
 clear hC hT hL hz
 go_enter Tryz.func11, Tryz.ntmps11
 by_cases hg : GreatO T.L l
 ·have HG := Lh (pB_true hg)
  clear hg
  go_wp2_with (first
   | (refine wpList_load_row rfl 49 _ rfl w.heap.size rfl _ cs _ _ HK1.out.now.1 Tryz.underlying49 rfl HI.out ?_)
   | (go_at_call 37; refine (great19_st HK1 cs T HC.out (fun _ h => h.2.1) (fun _ h => h.2.2) c true HG).mono ?_; rintro e w2 ⟨rfl, HK2⟩)
   | (go_at_call 38; refine (awake19_st HK2).mono ?_; rintro e w3 ⟨rfl, HK3⟩))
  go_ret
  exact ⟨rfl, HK3.out.2⟩
 obtain ⟨hs1, hs2, hs3⟩ := ops_small hg
 have HG := Lh (pB_false hg)
 have HS := Lh hs1
 have HS3 := Lh hs3
 clear hg hs1 hs3
 go_wp2_with (first
  | (refine wpList_load_row rfl 49 _ rfl w.heap.size rfl _ cs _ _ HK1.out.now.1 Tryz.underlying49 rfl HI.out ?_)
  | (go_at_call 37; refine (great19_st HK1 cs T HC.out (fun _ h => h.2.1) (fun _ h => h.2.2) c false HG).mono ?_; rintro e w2 ⟨rfl, HK2⟩))
 refine wp_load_row 49 _ rfl w.heap.size rfl _ cs _ _ HK2.out.now.1 Tryz.underlying49 rfl HI.out ?_
 by_cases hok : TabOk T.L
 case neg =>
  have HV := Lh (pB_false hok)
  clear hok
  go_wp2_with fail
  refine (new_st w2 cs T HC.out HK2.out.now.2.1 HS.out false HV).mono ?_
  rintro e w3 (⟨-, rfl, HB3⟩ | ⟨h, -⟩)
  ·have HK3 := Lh (HK2.out.step HB3.out)
   go_wp2_with (first
    | (refine wpList_load_row rfl 49 _ rfl w.heap.size rfl _ cs _ _ HK3.out.now.1 Tryz.underlying49 rfl HI.out ?_)
    | (go_at_call 34; refine (rCheck_st HK3 cs T HC.out (fun _ h => h.2.1) false HV).mono ?_; rintro e w4 ⟨rfl, HK4⟩)
    | (go_at_call 38; refine (awake19_st HK4).mono ?_; rintro e w5 ⟨rfl, HK5⟩))
   go_ret
   exact ⟨rfl, HK5.out.2⟩
  ·cases h
 have HV := Lh (pB_true hok)
 have HOK := Lh hok
 clear hok
 go_wp2_with fail
 refine (new_st w2 cs T HC.out HK2.out.now.2.1 HS.out true HV).mono ?_
 rintro e w3 (⟨h, -⟩ | ⟨-, db, cs1, T1, rfl, HT1, HD1, HDP1, HB3, hdb⟩)
 ·cases h
 have HK3 := Lh (HK2.out.step HB3.out)
 have HL1 : Hid (T1.L = T.L) := Lh HT1.out.2
 have HM3 : Hid (DrvK (fun k => k = db) db cs1 T1 s00 none 0 w3) := Lh (drvNew HT1.out.1 (by rw [HL1.out]; exact HOK.out) HD1.out HDP1.out)
 have HDB : Hid (w.heap.size ≤ db ∧ db < w3.heap.size) := Lh ⟨by have := HK2.out.2.size; omega, HD1.out.lt⟩
 obtain ⟨CB, hCB⟩ : ∃ y, rdC cs 0 none 0 [] false false = y := ⟨_, rfl⟩
 have HBD : Hid (Tryz.prog.built 81 [(0, .agg cs)] = some CB) := Lh (by rw [built_ref cs hs, hCB])
 have HCB : Hid (rdV cs s00 none 0 = CB) := Lh hCB
 have HCBS : Hid (CB.size = 263 ∧ CB.all (·.oneCell') = true) := Lh (by rw [← hCB]; exact ⟨rdC_size hs, rdC_one HC.out⟩)
 have HIB : Hid ((Tryz.prog.info? 81).map (·.size) = some CB.size) := Lh (by rw [HCBS.out.1]; exact info_refS)
 have HOLB : Hid (z.size = CB.size) := Lh (by rw [HCBS.out.1, HZS.out])
 have hnn : ((some (⟨db, 0, none⟩ : Addr)) == none) = false := rfl
 clear hCB hdb HD1 HDP1 HT1
 go_upto_region 8 with (first
  | (refine wpList_load_row rfl 49 _ rfl w.heap.size rfl _ cs _ _ HK3.out.now.1 Tryz.underlying49 rfl HI.out ?_)
  | (go_at_call 34; refine (rCheck_st (St.here HK3) cs T HC.out (fun _ h => h.2.1) true HV).mono ?_; rintro e w4 ⟨rfl, HK4⟩))
 obtain ⟨w5, hw5⟩ : ∃ y, (w4.alloc (.cells z 81)).setRow w4.heap.size CB = y := ⟨_, rfl⟩
 have hb5 : Below w4.heap.size w4 w5 := by rw [← hw5]; exact setRow_below ((Below.refl _ w4).alloc (Nat.le_refl _) _) (Nat.le_refl _) CB
 have hx5 : w5.heap[w4.heap.size]? = some (.cells CB 81 (0, 0)) := by rw [← hw5]; exact setRow_heap _ _ _ _ _ _ (heap_alloc_new w4 _)
 have HB35 : Hid (Below w3.heap.size w3 w5) := Lh (HK4.out.2.trans (hb5.mono HK4.out.2.size))
 obtain ⟨mb, hmb⟩ : ∃ y, w4.heap.size = y := ⟨_, rfl⟩
 have HMB : Hid (w.heap.size ≤ mb ∧ db < mb ∧ w3.heap.size ≤ mb ∧ mb < w5.heap.size) := Lh (by
  have h1 := HK4.out.2.size
  have h2 := (Array.getElem?_eq_some_iff.1 hx5).1
  have h3 := HDB.out
  omega)
 have HP5 : Hid (PlI w db mb cs cs1 T T1 s00 none 0 none 0 w5) := Lh ⟨HM3.out.wideP HB35.out (fun k hk => .inl hk) (fun k hk => hk.imp id fun e => by have := HMB.out; omega) (fun k hk => by have := HMB.out; omega),
  by rw [HCB.out, ← hmb]; exact hx5, fun V _ => BytesAt.nil_ _ _, HK3.out.2.trans (HB35.out.mono HK3.out.2.size)⟩
 clear hb5 hx5 HM3 HB35 HCB
 go_wp2_with (first
  | (refine wpList_load_row rfl 49 _ rfl w.heap.size rfl _ cs _ _ HK4.out.now.1 Tryz.underlying49 rfl HI.out ?_)
  | (refine wpList_buildD rfl 81 _ rfl [(0, .agg cs)] (by simp [go_sem]) CB HBD.out ?_)
  | (refine wpList_allocZ rfl 81 rfl z HZ.out ?_)
  | (refine wpList_store_row rfl 81 _ _ rfl w4.heap.size CB rfl rfl 81 z (heap_alloc_new w4 _) HIB.out HOLB.out HCBS.out.2 ?_))
 (try rw [hmb])
 rw [hmb] at hw5
 (try rw [hw5])
 clear hw5 hmb HBD HIB HOLB HCBS HK1 HK2 HK3 HK4 HG HS HV hnn
 go_loopw [8] (fun iv wr => ∃ (k : Nat) (s : DrvS) (ha : Option Addr) (hc : Nat) (ra : Option Addr) (rc : Nat), k ≤ l.length ∧ iv = .int .i64 k ∧ Hid (PlI w db mb cs cs1 T T1 s ha hc ra rc wr)) (fun iv _ => l.length - (intOf iv).toNat)
 case atStart => exact ⟨0, s00, none, 0, none, 0, Nat.zero_le _, rfl, HP5⟩
 case round =>
 clear HP5
 obtain ⟨k, s, ha, hc, ra, rc, hk, rfl, HP⟩ := hrel
 by_cases hlt : k < l.length
 case neg =>
  have hd1 : decide ((k : Int) < (l.length : Int)) = false := by simp; omega
  have hd2 : ¬ (k : Int) < (l.length : Int) := by omega
  have HBW : Hid (Below w.heap.size w wr) := Lh HP.out.bel
  go_wp2_with (go_at_call 38; refine (awake19_st (w0 := w) (F := fun _ => True) (Lh ⟨fun _ _ => trivial, HBW.out⟩)).mono ?_; rintro e w6 ⟨rfl, HK6⟩)
  go_ret
  exact ⟨rfl, HK6.out.2⟩
 obtain ⟨b, off, o, rfl, hx, hw, p0, p1⟩ := (HLW.out wr HP.out.bel).at_ hlt
 have hlti : (k : Int) < (l.length : Int) := by omega
 have HX := Lh hx
 have hob : o.b.length ≤ 600 := HS3.out o (List.mem_of_getElem? hx)
 obtain ⟨CV, hCV⟩ : ∃ y, rdV cs s ra rc = y := ⟨_, rfl⟩
 have HCV0 := Lh hCV
 have HCVS : Hid (CV.size = 263) := Lh (by rw [← hCV]; exact rdV_size hs)
 have HIV : Hid ((Tryz.prog.info? 81).map (·.size) = some CV.size) := Lh (by rw [HCVS.out]; exact info_refS)
 have HTK : Hid (TabC cs T ∧ TabOk T.L ∧ Drv.Ok (heldL T.L) T.L.nodes.length s.1) := Lh ⟨HC.out, HOK.out, by have h := HP.out.one.sok; rwa [HL1.out] at h⟩
 have HBD : Hid (∀ a b : World, Below w.heap.size w a → BelD (PD db mb) a b → Below w.heap.size w b) := Lh fun a b ha hb => ha.trans (hb.below (fun k hk => by have := HDB.out; have := HMB.out; omega) ha.size)
 clear hx hw hCV
 obtain ⟨cl, hcl⟩ : ∃ y, o.cl = y := ⟨_, rfl⟩
 rw [hcl] at p1
 clear hcl
 go_upto_region 14 with fail
 go_cut [52] (fun v wq => v = .bool cl ∧ wr = wq)
 case first =>
  go_wp2_with fail
  go_meet
  exact ⟨rfl, rfl⟩
 case rest =>
 obtain ⟨rfl, rfl⟩ := hcut
 clear p1
 apply_assumption
 go_cut [9, 10, 11, 12] (fun v9 v10 v11 v12 wq => ∃ (A7 : Option Addr) (c7 : Nat) (A8 : Option Addr) (c8 : Nat) (o7 : List Int) (e7 : Int) (s7 : DrvS) (h7 : Option Addr) (n7 : Nat) (r8 : Option Addr) (n8 : Nat), v9 = .slice A7 o7.length c7 ∧ v10 = .slice A8 o7.length c8 ∧ v11 = .int .i64 e7 ∧ v12 = .int .i64 e7 ∧ Hid (PlI w db mb cs cs1 T T1 s7 h7 n7 r8 n8 wq) ∧ Hid (∀ V, BelD (PD db mb) wq V → BytesAt A7 o7 V) ∧ Hid (∀ V, BelD (PD db mb) wq V → BytesAt A8 o7 V))
 case first =>
  rcases cl with _ | _
  case true =>
   obtain ⟨⟨s7, o7, e7⟩, hwr⟩ : ∃ y, clS T.L s = y := ⟨_, rfl⟩
   have HWR := Lh hwr
   have HW1 : Hid (clS T1.L s = (s7, o7, e7)) := Lh (by rw [HL1.out]; exact hwr)
   have HON : Hid (Drv.Ok (heldL T.L) T.L.nodes.length s7.1) := Lh (by have h := clS_ok HOK.out HTK.out.2.2; rwa [hwr] at h)
   clear hwr
   go_wp2_with fail
   refine (Close_st (Lh HP.out.one)).mono ?_
   rintro e w7 ⟨A7, c7, h7, n7, rfl, HK7, HB7, HY7, HR7, HL7⟩
   rw [HW1.out] at HK7 HY7 HR7 HL7
   rw [HW1.out]
   simp only at HK7 HY7 HR7 HL7 ⊢
   have hmn : mb ≠ db := by have := HMB.out; omega
   have HX7 : Hid (RdB mb CV w7) := Lh (by rw [← HCV0.out]; exact HP.out.two.keep (HB7.out.block _ HP.out.two.lt hmn))
   have HBW7 : Hid (Below w.heap.size w w7) := Lh (HBD.out _ _ HP.out.bel (HB7.out.mono fun k hk => .inl hk))
   have HD7 : Hid (Dep (fun k => ¬ PD db mb k) w7 (BytesAt ra s.1.held)) := Lh (HP.out.hld.step (fun k hk hl => HB7.out.block k hl fun e => hk (.inl e)) HB7.out.size fun k hk _ => hk)
   clear hmn
   go_wp2_with (refine wpList_load_row rfl 81 _ rfl mb rfl _ CV _ _ HX7.out Tryz.underlying81 rfl HIV.out ?_)
   have hcall := rClose_st (PD db mb) w7 cs T s ra rc HTK (Lh fun V hV => HTW.out V (HBW7.out.trans (hV.mono HBW7.out.size))) HD7
   rw [HCV0.out, HWR.out] at hcall
   refine hcall.mono ?_
   clear hcall
   rintro e w8 ⟨A8, c8, r8, n8, rfl, HB8, HO8, HH8⟩
   simp only at HO8 HH8 ⊢
   obtain ⟨C8, hC8⟩ : ∃ y, rdV cs s7 r8 n8 = y := ⟨_, rfl⟩
   rw [hC8]
   have HC8S : Hid (C8.size = 263 ∧ C8.all (·.oneCell') = true) := Lh (by rw [← hC8]; exact ⟨rdV_size hs, rdV_one HC.out⟩)
   have HI8 : Hid ((Tryz.prog.info? 81).map (·.size) = some C8.size) := Lh (by rw [HC8S.out.1]; exact info_refS)
   have HOL8 : Hid (CV.size = C8.size) := Lh (by rw [HC8S.out.1, HCVS.out])
   have HX8 : Hid (RdB mb CV w8) := Lh (HX7.out.keep (HB8.out.block _ HX7.out.lt))
   obtain ⟨w9, hw9⟩ : ∃ y, w8.setRow mb C8 = y := ⟨_, rfl⟩
   have hst : ∀ k, k ≠ mb → w9.heap[k]? = w8.heap[k]? := fun k hk => by rw [← hw9]; exact setRow_other _ _ _ _ hk
   have hs9 : w9.heap.size = w8.heap.size := by rw [← hw9]; simp [World.setRow]
   have HB79 : Hid (BelD (PD db mb) w7 w9) := Lh (by rw [← hw9]; exact (BelD.of_below HB8.out).setRow (.inr rfl) C8)
   have HP9 : Hid (PlI w db mb cs cs1 T T1 s7 h7 n7 r8 n8 w9) := Lh ⟨HK7.out.step HB79.out ((hst db (by have := HMB.out; omega)).trans (HB8.out.block _ HK7.out.box.lt)),
    by rw [hC8, ← hw9]; exact HX8.out.row C8, HH8.out.step (fun k hk hl => hst k fun e => hk (.inr e)) (by omega) (fun k hk _ => hk), HBD.out _ _ HBW7.out HB79.out⟩
   have HBO : Hid (∀ V, BelD (PD db mb) w9 V → BytesAt A7 o7 V) := Lh fun V hV => HY7.out V (HB79.out.trans hV)
   have HBR : Hid (∀ V, BelD (PD db mb) w9 V → BytesAt A8 o7 V) := Lh fun V hV => by
    have hu := (HY7.out w7 (BelD.refl _ _)).u8
    have hl := (HY7.out w7 (BelD.refl _ _)).ln
    refine bytes_own HO8.out hu hl V fun k hk => ?_
    obtain ⟨q1, q2, -⟩ := own_ty HO8.out hk
    have q3 := HX7.out.lt
    have q4 := HMB.out
    have q1' : w7.heap.size ≤ k := q1
    exact (hV.block k (by omega) (fun e => by rcases e with e | e <;> omega)).trans (hst k (by omega))
   clear hC8 hst hs9
   go_wp2_with (refine wpList_store_row rfl 81 _ _ rfl mb C8 rfl rfl 81 CV HX8.out HI8.out HOL8.out HC8S.out.2 ?_)
   (try rw [hw9])
   go_meet
   exact ⟨A7, c7, A8, c8, o7, e7, s7, h7, n7, r8, n8, rfl, rfl, rfl, rfl, HP9, HBO, HBR⟩
  case false =>
   obtain ⟨⟨s7, o7, e7⟩, hwr⟩ : ∃ y, wrS T.L s o.b = y := ⟨_, rfl⟩
   have HWR := Lh hwr
   have HW1 : Hid (wrS T1.L s o.b = (s7, o7, e7)) := Lh (by rw [HL1.out]; exact hwr)
   clear hwr
   have HOW : Hid (∀ V, Below w.heap.size w V → BytesAt o.a o.b V ∧ V.cell? ⟨b, off + k * 2, none⟩ = some (.slice o.a o.b.length o.c)) := Lh fun V hV => by
    obtain ⟨b', off', o', e, hx, hw', q0, -⟩ := (HLW.out V hV).at_ hlt
    injection e with e; injection e with e1 e2; subst e1 e2
    rw [HX.out] at hx; injection hx with hx; subst hx
    exact ⟨hw', q0⟩
   have HU := Lh (HOW.out wr HP.out.bel).1.u8
   obtain ⟨wz, hwz⟩ : ∃ y, wr.alloc (.cells #[] 5) = y := ⟨_, rfl⟩
   have HON0 : Hid (wz.ownsRow wr.heap.size 5 1 (.slice (some ⟨wr.heap.size, 0, none⟩) 0 0) 0 []) := Lh (by rw [← hwz]; exact World.ownsRow_made wr #[] 0 (e := 5) (size := 1) (Nat.le_refl wr.heap.size) (Nat.zero_le _) (by simp))
   have HBZ : Hid (Below wr.heap.size wr wz) := Lh (by rw [← hwz]; exact (Below.refl _ wr).alloc (Nat.le_refl _) _)
   have hoz := HOW.out wz (HP.out.bel.trans (HBZ.out.mono HP.out.bel.size))
   have p0z := hoz.2
   have HSLC : Hid (Sl wz 1 o.a o.b.length (o.b.map (Value.int .u8))) := Lh (by
    have h := hoz.1.sl
    rwa [← List.map_eq_flatMap] at h)
   clear hoz
   obtain ⟨i0, hi, hz0, hz1, hz2⟩ := info_parts infoByteD
   have h63 : 0 + o.b.length ≤ maxLen := by unfold maxLen; omega
   have hby : (0 + o.b.length) * 1 ≤ 140737488355328 := by omega
   go_wp2_with (at_builtin; go_must (refine wpList_append_sl _ rfl _ _ 79 rfl wr.heap.size 5 i0 _ 1 1 Tryz.underlying79 hi hz0 hz1 hz2 rfl (by decide) HON0.out rfl HSLC.out rfl (bytes_one o.b) h63 hby HBZ.out.size ?_); intro v6 w6 hown6 hg6)
   obtain ⟨A6, c6, rfl⟩ := own_shape hown6
   rw [Nat.zero_add] at hown6 ⊢
   rw [List.nil_append] at hown6
   have HB6 : Hid (Below wr.heap.size wr w6) := Lh (HBZ.out.grown hg6 HBZ.out.size (fun k hk => by simp [Value.ownBlock] at hk; omega))
   have HO6 := Lh hown6
   have hmn : mb ≠ db ∧ mb < wr.heap.size ∧ db < wr.heap.size := ⟨by have := HMB.out; omega, HP.out.two.lt, HP.out.one.box.lt⟩
   have HMN := Lh hmn
   clear hown6 hg6 h63 hby hmn
   refine (Write_st (bl := o.b) (B := A6) (Lh (HP.out.one.step (BelD.of_below HB6.out) (HB6.out.block _ HP.out.one.box.lt))) c6 (Lh fun V hV => bytes_own HO6.out HU.out (by omega) V fun j hj => ?_) (by omega)).mono ?_
   ·obtain ⟨q1, q2, -⟩ := own_ty HO6.out hj
    have := HMN.out
    exact hV.block j q2 fun e => by rcases e with e | e <;> omega
   rintro e w7 ⟨A7, c7, h7, n7, rfl, HK7, HB7, HY7, HR7, HL7⟩
   rw [HW1.out] at HK7 HY7 HR7 HL7
   rw [HW1.out]
   simp only at HK7 HY7 HR7 HL7 ⊢
   have HX7 : Hid (RdB mb CV w7) := Lh (by rw [← HCV0.out]; exact (HP.out.two.keep (HB6.out.block _ HP.out.two.lt)).keep (HB7.out.block _ (Nat.lt_of_lt_of_le HMN.out.2.1 HB6.out.size) HMN.out.1))
   have HBW7 : Hid (Below w.heap.size w w7) := Lh (HBD.out _ _ HP.out.bel ((BelD.of_below HB6.out).trans (HB7.out.mono fun k hk => .inl hk)))
   have HD7 : Hid (Dep (fun k => ¬ PD db mb k) w7 (BytesAt ra s.1.held)) := Lh ((HP.out.hld.step (fun k _ hl => HB6.out.block k hl) HB6.out.size fun k hk _ => hk).step (fun k hk hl => HB7.out.block k hl fun e => hk (.inl e)) HB7.out.size fun k hk _ => hk)
   have HCALL : Hid (Calls Tryz.prog 43 #[.agg CV, .slice o.a o.b.length o.c] w7.drew (RetRW (PD db mb) cs (s7, o7, e7) w7.drew)) := Lh (by
    have h := rWrite_st (PD db mb) w7.drew cs T s ra rc (B := o.a) (bl := o.b) o.c HTK (Lh fun V hV => by
     have hV2 : Below w7.heap.size w7 V := (Below.refl w7.heap.size w7).drew.trans hV
     have hV3 := HBW7.out.trans (hV2.mono HBW7.out.size)
     exact ⟨HTW.out V hV3, (HOW.out V hV3).1⟩) (Lh fun V hV => HD7.out V hV) (Lh fun k hk => by
      have h1 := HX7.out.lt
      have h2 := HK7.out.box.lt
      show k < w7.heap.size
      rcases hk with hk | hk <;> omega) (by omega)
    rwa [HCV0.out, HWR.out] at h)
   have HOC : Hid (∀ V, Below w7.heap.size w7 V → V.cell? ⟨b, off + k * 2, none⟩ = some (.slice o.a o.b.length o.c)) := Lh fun V hV => (HOW.out V (HBW7.out.trans (hV.mono HBW7.out.size))).2
   clear p0 p0z hwz hi hz0 hz1 hz2
   go_upto_region 18 with fail
   refine wp_region_Y 11 (by kernel_rfl) (fun V => Hid (RdB mb CV V) ∧ V.cell? ⟨b, off + k * 2, none⟩ = some (.slice o.a o.b.length o.c)) (fun _ => True) ⟨Lh HX7.out, HOC.out _ (Below.refl _ w7).drew⟩ (fun hHeld => ?_)
   refine wpAnyY_take (i := 0) (v := .agg CV) [11, 12, 13] rfl (by kernel_rfl) (by kernel_rfl) (by kernel_rfl) (by kernel_rfl) (by kernel_rfl) (fun _ _ _ h => h) (Or.inl ⟨by first | kernel_rfl | rfl, ?_⟩) (fun _ _ => trivial) (by assumption) ?_
   ·intro w hSw
    exact exec_load_part 81 (.tmp 7) rfl mb 0 rfl CV _ (fun j v h => by rw [Nat.zero_add]; exact hSw.1.out.cell h) Tryz.underlying81 rfl HIV.out
   (try simp only [Act.put, zq1, zq2, zq3, zq4, zq5, zq6])
   refine yt (v := ?_) 1 rfl ?_ (fun _ _ => trivial) ?_
   rotate_left
   ·intro _ _; go_simp; (try with_reducible rfl)
   (try simp only [Act.put, zq1, zq2, zq3, zq4, zq5, zq6])
   refine yt (v := ?_) 2 rfl ?_ (fun _ _ => trivial) ?_
   rotate_left
   ·intro _ _; go_simp; (try with_reducible rfl)
   (try simp only [Act.put, zq1, zq2, zq3, zq4, zq5, zq6])
   refine yt (v := ?_) 3 rfl ?_ (fun _ _ => trivial) ?_
   rotate_left
   ·intro _ _; go_simp; (try with_reducible rfl)
   (try simp only [Act.put, zq1, zq2, zq3, zq4, zq5, zq6])
   refine yt (v := ?_) 4 rfl ?_ (fun _ _ => trivial) ?_
   rotate_left
   ·intro _ _; go_simp; (try with_reducible rfl)
   (try simp only [Act.put, zq1, zq2, zq3, zq4, zq5, zq6])
   refine yk (v := ?_) 5 [11, 12, 13] rfl ?_ (fun _ _ => trivial) ?_
   rotate_left
   ·intro w hSw; (try dsimp only at hSw); go_simp; (try with_reducible rfl)
   (try simp only [Act.put, zq1, zq2, zq3, zq4, zq5, zq6])
   refine wpAnyY_ready (i := 6) (by kernel_rfl) rfl (fun _ _ => trivial) (fun K hK => ?_)
   go_simp
   refine HCALL.out.mono ?_
   rintro e w8 ⟨A8, c8, r8, n8, rfl, HB8x, HO8, HH8⟩
   have HB8 : Hid (Below w7.heap.size w7 w8) := Lh ((Below.refl w7.heap.size w7).drew.trans HB8x.out)
   simp only at HO8 HH8 ⊢
   obtain ⟨C8, hC8⟩ : ∃ y, rdV cs s7 r8 n8 = y := ⟨_, rfl⟩
   rw [hC8]
   have HC8S : Hid (C8.size = 263 ∧ C8.all (·.oneCell') = true) := Lh (by rw [← hC8]; exact ⟨rdV_size hs, rdV_one HC.out⟩)
   have HI8 : Hid ((Tryz.prog.info? 81).map (·.size) = some C8.size) := Lh (by rw [HC8S.out.1]; exact info_refS)
   have HOL8 : Hid (CV.size = C8.size) := Lh (by rw [HC8S.out.1, HCVS.out])
   have HX8 : Hid (RdB mb CV w8) := Lh (HX7.out.keep (HB8.out.block _ HX7.out.lt))
   obtain ⟨w9, hw9⟩ : ∃ y, w8.setRow mb C8 = y := ⟨_, rfl⟩
   have hst : ∀ k, k ≠ mb → w9.heap[k]? = w8.heap[k]? := fun k hk => by rw [← hw9]; exact setRow_other _ _ _ _ hk
   have hs9 : w9.heap.size = w8.heap.size := by rw [← hw9]; simp [World.setRow]
   have HB79 : Hid (BelD (PD db mb) w7 w9) := Lh (by rw [← hw9]; exact (BelD.of_below HB8.out).setRow (.inr rfl) C8)
   have HP9 : Hid (PlI w db mb cs cs1 T T1 s7 h7 n7 r8 n8 w9) := Lh ⟨HK7.out.step HB79.out ((hst db (by have := HMB.out; omega)).trans (HB8.out.block _ HK7.out.box.lt)),
    by rw [hC8, ← hw9]; exact HX8.out.row C8, HH8.out.step (fun k hk hl => hst k fun e => hk (.inr e)) (by omega) (fun k hk _ => hk), HBD.out _ _ HBW7.out HB79.out⟩
   have HBO : Hid (∀ V, BelD (PD db mb) w9 V → BytesAt A7 o7 V) := Lh fun V hV => HY7.out V (HB79.out.trans hV)
   have HBR : Hid (∀ V, BelD (PD db mb) w9 V → BytesAt A8 o7 V) := Lh fun V hV => by
    have hu := (HY7.out w7 (BelD.refl _ _)).u8
    have hl := (HY7.out w7 (BelD.refl _ _)).ln
    refine bytes_own HO8.out hu hl V fun k hk => ?_
    obtain ⟨q1, q2, -⟩ := own_ty HO8.out hk
    have q3 := HX7.out.lt
    have q4 := HMB.out
    have q1' : w7.heap.size ≤ k := q1
    exact (hV.block k (by omega) (fun e => by rcases e with e | e <;> omega)).trans (hst k (by omega))
   clear hC8 hst hs9
   refine hK.out _ _ (⟨Lh HX8.out, HOC.out _ HB8.out⟩) (fun hHeld => ?_)
   clear hK K
   (try simp only [Act.put, zq1, zq2, zq3, zq4, zq5, zq6])
   refine yt (v := ?_) 7 rfl ?_ (fun _ _ => trivial) ?_
   rotate_left
   ·intro _ _; go_simp; (try with_reducible rfl)
   (try simp only [Act.put, zq1, zq2, zq3, zq4, zq5, zq6])
   refine yt (v := ?_) 8 rfl ?_ (fun _ _ => trivial) ?_
   rotate_left
   ·intro _ _; go_simp; (try with_reducible rfl)
   (try simp only [Act.put, zq1, zq2, zq3, zq4, zq5, zq6])
   refine yt (v := ?_) 9 rfl ?_ (fun _ _ => trivial) ?_
   rotate_left
   ·intro _ _; go_simp; (try with_reducible rfl)
   (try simp only [Act.put, zq1, zq2, zq3, zq4, zq5, zq6])
   refine yt (v := ?_) 10 rfl ?_ (fun _ _ => trivial) ?_
   rotate_left
   ·intro _ _; go_simp; (try with_reducible rfl)
   (try simp only [Act.put, zq1, zq2, zq3, zq4, zq5, zq6])
   refine wpAnyY_late (i := 11) (by kernel_rfl) (by kernel_rfl) rfl (fun K hK => ?_)
   (try rw [if_pos (by kernel_rfl)])
   refine wp_store_row 81 _ _ rfl mb C8 rfl rfl 81 CV HX8.out HI8.out HOL8.out HC8S.out.2 ?_
   (try rw [hw9])
   refine hK.out _ _ (trivial) ?_
   clear hK K
   (try simp only [Act.put, zq1, zq2, zq3, zq4, zq5, zq6])
   refine wpAnyY_late (i := 12) (by kernel_rfl) (by kernel_rfl) rfl (fun K hK => ?_)
   go_simp
   refine hK.out _ _ (trivial) ?_
   clear hK K
   (try simp only [Act.put, zq1, zq2, zq3, zq4, zq5, zq6])
   refine wpAnyY_last (i := 13) (by kernel_rfl) (by kernel_rfl) (by kernel_rfl) rfl (fun K hK => ?_)
   go_simp
   refine hK.out _ _ trivial ?_
   clear hK K hHeld
   go_wp2_with fail
   go_meet
   exact ⟨A7, c7, A8, c8, o7, e7, s7, h7, n7, r8, n8, rfl, rfl, rfl, rfl, HP9, HBO, HBR⟩

 case rest =>
 obtain ⟨A7, c7, A8, c8, o7, e7, s7, h7, n7, r8, n8, rfl, rfl, rfl, rfl, HP9, HBO, HBR⟩ := hcut
 obtain ⟨w9, hw9⟩ : ∃ y, y = wc := ⟨_, rfl⟩
 subst hw9
 go_upto_region 19 with fail
 have HSZ1 : Hid (cs1.size = 259) := Lh HP9.out.one.tc.size
 obtain ⟨hl, hhl⟩ : ∃ y, s7.1.held = y := ⟨_, rfl⟩
 obtain ⟨nd, hnd⟩ : ∃ y : Nat, s7.1.node = y := ⟨_, rfl⟩
 have hl4 : hl.length ≤ 4 := by rw [← hhl]; exact drv_len HP9.out.one.ok HP9.out.one.sok
 have HFV : Hid (∀ V, Below w9.heap.size w9 V → (Hid (BytesAt A7 o7 V ∧ BytesAt A8 o7 V ∧ BytesAt r8 hl V) ∧ V.cell? ⟨mb, 259, none⟩ = some (.int .i64 nd) ∧ V.cell? ⟨mb, 260, none⟩ = some (.slice r8 hl.length n8)) ∧ DrvB db cs1 nd h7 n7 hl (stI s7) V ∧ Sl V 1 h7 hl.length (hl.map (Value.int .u8))) := Lh fun V hV => by
  have hD := BelD.of_below (D := PD db mb) hV
  have h2 := HP9.out.two.keep (hV.block _ HP9.out.two.lt)
  have h1 := HP9.out.one.step hD (hV.block _ HP9.out.one.box.lt)
  rw [← hhl, ← hnd]
  refine ⟨⟨Lh ⟨HBO.out V hD, HBR.out V hD, HP9.out.hld V fun k hk hl => hV.block k hl⟩, h2.cNode hs, h2.cHeld hs⟩, h1.box, ?_⟩
  have h := (h1.dep V (BelD.refl _ _)).2.sl
  rwa [← List.map_eq_flatMap] at h
 have hcv := fun (V : World) (X : Option Addr) (c : Nat) (l : List Int) (h : BytesAt X l V) => run_conv_str (P := Tryz.prog) V 79 5 Tryz.underlying79 Tryz.underlying5 X l.length c l (by have h := h.sl; rwa [← List.map_eq_flatMap] at h) 9 Tryz.underlying9
 have HCV := Lh hcv
 have HBW9 : Hid (Below w.heap.size w w9) := Lh HP9.out.bel
 obtain ⟨so, hso⟩ : ∃ y, strOfNums o7 = y := ⟨_, rfl⟩
 have HSO := Lh hso
 obtain ⟨sh, hsh⟩ : ∃ y, strOfNums hl = y := ⟨_, rfl⟩
 have HSH := Lh hsh
 clear hhl hnd hcv hso hsh
 refine wp_region_held_drew (by kernel_rfl) (S := fun V => Hid (BytesAt A7 o7 V ∧ BytesAt A8 o7 V ∧ BytesAt r8 hl V) ∧ V.cell? ⟨mb, 259, none⟩ = some (.int .i64 nd) ∧ V.cell? ⟨mb, 260, none⟩ = some (.slice r8 hl.length n8)) (HFV.out _ (Below.refl _ w9).drew).1 (fun hHeld => ?_)
 refine ht (v := ?_) 0 rfl ?_ ?_
 rotate_left
 ·intro _ _; go_simp; (try with_reducible rfl)
 (try simp only [Act.put, zq1, zq2, zq3, zq4, zq5, zq6])
 refine ht (v := ?_) 2 rfl ?_ ?_
 rotate_left
 ·intro _ _; go_simp; (try with_reducible rfl)
 (try simp only [Act.put, zq1, zq2, zq3, zq4, zq5, zq6])
 refine ht (v := .string so) 1 rfl ?_ ?_
 ·intro V hSV
  have h := HCV.out V A7 c7 o7 hSV.1.out.1
  rw [HSO.out] at h
  go_simp
 (try simp only [Act.put, zq1, zq2, zq3, zq4, zq5, zq6])
 refine ht (v := .string so) 3 rfl ?_ ?_
 ·intro V hSV
  have h := HCV.out V A8 c8 o7 hSV.1.out.2.1
  rw [HSO.out] at h
  go_simp
 (try simp only [Act.put, zq1, zq2, zq3, zq4, zq5, zq6])
 refine ht (v := ?_) 4 rfl ?_ ?_
 rotate_left
 ·intro _ _; go_simp; (try with_reducible rfl)
 (try simp only [Act.put, zq1, zq2, zq3, zq4, zq5, zq6])
 refine ht (v := ?_) 5 rfl ?_ ?_
 rotate_left
 ·intro _ _; go_simp; (try with_reducible rfl)
 (try simp only [Act.put, zq1, zq2, zq3, zq4, zq5, zq6])
 refine ht (v := ?_) 6 rfl ?_ ?_
 rotate_left
 ·intro _ _; go_simp; (try with_reducible rfl)
 (try simp only [Act.put, zq1, zq2, zq3, zq4, zq5, zq6])
 refine ht (v := ?_) 7 rfl ?_ ?_
 rotate_left
 ·intro _ _; go_simp; (try with_reducible rfl)
 (try simp only [Act.put, zq1, zq2, zq3, zq4, zq5, zq6])
 refine ht (v := ?_) 8 rfl ?_ ?_
 rotate_left
 ·intro _ _; go_simp; (try with_reducible rfl)
 (try simp only [Act.put, zq1, zq2, zq3, zq4, zq5, zq6])
 refine ht (v := ?_) 9 rfl ?_ ?_
 rotate_left
 ·intro _ _; go_simp; (try with_reducible rfl)
 (try simp only [Act.put, zq1, zq2, zq3, zq4, zq5, zq6])
 refine ht (v := ?_) 10 rfl ?_ ?_
 rotate_left
 ·intro _ _; go_simp; (try with_reducible rfl)
 (try simp only [Act.put, zq1, zq2, zq3, zq4, zq5, zq6])
 refine ht (v := ?_) 11 rfl ?_ ?_
 rotate_left
 ·intro _ _; go_simp; (try with_reducible rfl)
 (try simp only [Act.put, zq1, zq2, zq3, zq4, zq5, zq6])
 refine ht (v := ?_) 13 rfl ?_ ?_
 rotate_left
 ·intro _ _; go_simp; (try with_reducible rfl)
 (try simp only [Act.put, zq1, zq2, zq3, zq4, zq5, zq6])
 refine ht (v := ?_) 14 rfl ?_ ?_
 rotate_left
 ·intro w hSw; (try dsimp only at hSw); go_simp; (try with_reducible rfl)
 (try simp only [Act.put, zq1, zq2, zq3, zq4, zq5, zq6])
 refine wpAnyH_ready (rs := [12]) (by kernel_rfl) (by simp) (AllReadyH.cons rfl (fun K hK => ?_) AllReadyH.nil)
 (try rw [if_pos (by kernel_rfl)])
 go_simp
 refine (Node_st (HFV.out _ (Below.refl _ w9).drew).2.1 HSZ1.out).mono ?_
 rintro e w10 ⟨rfl, rfl⟩
 refine hK.out _ _ ((HFV.out _ (Below.refl _ w9).drew).1) (fun hHeld => ?_)
 clear hK K
 (try simp only [Act.put, zq1, zq2, zq3, zq4, zq5, zq6])
 refine ht (v := ?_) 15 rfl ?_ ?_
 rotate_left
 ·intro _ _; go_simp; (try with_reducible rfl)
 (try simp only [Act.put, zq1, zq2, zq3, zq4, zq5, zq6])
 refine ht (v := ?_) 16 rfl ?_ ?_
 rotate_left
 ·intro _ _; go_simp; (try with_reducible rfl)
 (try simp only [Act.put, zq1, zq2, zq3, zq4, zq5, zq6])
 refine ht (v := ?_) 17 rfl ?_ ?_
 rotate_left
 ·intro _ _; go_simp; (try with_reducible rfl)
 (try simp only [Act.put, zq1, zq2, zq3, zq4, zq5, zq6])
 refine ht (v := ?_) 18 rfl ?_ ?_
 rotate_left
 ·intro _ _; go_simp; (try with_reducible rfl)
 (try simp only [Act.put, zq1, zq2, zq3, zq4, zq5, zq6])
 refine ht (v := ?_) 21 rfl ?_ ?_
 rotate_left
 ·intro _ _; go_simp; (try with_reducible rfl)
 (try simp only [Act.put, zq1, zq2, zq3, zq4, zq5, zq6])
 refine ht (v := ?_) 22 rfl ?_ ?_
 rotate_left
 ·intro w hSw; (try dsimp only at hSw); go_simp; (try with_reducible rfl)
 (try simp only [Act.put, zq1, zq2, zq3, zq4, zq5, zq6])
 refine ht (v := .string sh) 23 rfl ?_ ?_
 ·intro V hSV
  have h := HCV.out V r8 n8 hl hSV.1.out.2.2
  rw [HSH.out] at h
  go_simp
 (try simp only [Act.put, zq1, zq2, zq3, zq4, zq5, zq6])
 refine wpAnyH_ready (rs := [19]) (by kernel_rfl) (by simp) (AllReadyH.cons rfl (fun K hK => ?_) AllReadyH.nil)
 (try rw [if_pos (by kernel_rfl)])
 go_simp
 refine (Held_st (HFV.out _ (Below.refl _ w9).drew).2.1 HSZ1.out (HFV.out _ (Below.refl _ w9).drew).2.2 (by omega)).mono ?_
 rintro e w10 ⟨A10, c10, rfl, HO10, HB10⟩
 have HBX : Hid (Below w9.heap.size w9 w10) := Lh ((Below.refl w9.heap.size w9).drew.trans HB10.out)
 have hcv10 := run_conv_str (P := Tryz.prog) w10 79 5 Tryz.underlying79 Tryz.underlying5 A10 hl.length c10 hl (Sl.of_own HO10.out) 9 Tryz.underlying9
 rw [HSH.out] at hcv10
 refine hK.out _ _ ((HFV.out _ HBX.out).1) (fun hHeld => ?_)
 clear hK K
 (try simp only [Act.put, zq1, zq2, zq3, zq4, zq5, zq6])
 refine wpAnyH_ready (rs := [20]) (by kernel_rfl) (by simp) (AllReadyH.cons rfl (fun K hK => ?_) AllReadyH.nil)
 (try rw [if_pos (by kernel_rfl)])
 go_simp
 refine hK.out _ _ ((HFV.out _ HBX.out).1) (fun hHeld => ?_)
 clear hK K
 (try simp only [Act.put, zq1, zq2, zq3, zq4, zq5, zq6])
 refine ht (v := ?_) 24 rfl ?_ ?_
 rotate_left
 ·intro _ _; go_simp; (try with_reducible rfl)
 (try simp only [Act.put, zq1, zq2, zq3, zq4, zq5, zq6])
 refine ht (v := ?_) 25 rfl ?_ ?_
 rotate_left
 ·intro _ _; go_simp; (try with_reducible rfl)
 (try simp only [Act.put, zq1, zq2, zq3, zq4, zq5, zq6])
 refine wpAnyH_done (by kernel_rfl) ?_ _
 clear hcv10
 go_wp2_with fail
 go_roundw
 case rel => exact ⟨k + 1, s7, h7, n7, r8, n8, by omega, by go_num, Lh ⟨HP9.out.one.step (BelD.of_below HBX.out) (HBX.out.block _ HP9.out.one.box.lt), HP9.out.two.keep (HBX.out.block _ HP9.out.two.lt), HP9.out.hld.step (fun k _ hl => HBX.out.block k hl) HBX.out.size (fun k hk _ => hk), HBW9.out.trans (HBX.out.mono HBW9.out.size)⟩⟩
 case measure => simp [intOf]; omega
end Go.Proofs.YtlmkokeapbleoaaGreat
