/- umlautlaw19.DriveRuns: the call returns true. Condition: the table and the bytes are known. -/
import Derived.Test.YtlmkokeapbleoaaGreatRunHelp
namespace Go.Proofs.YtlmkokeapbleoaaGreat
open Go.RowKit Go.Shelf
set_option linter.unusedVariables false
set_option linter.unusedSimpArgs false
theorem ops_oneR {V : World} {n : Nat} {o : OpI} {t : TypeId} {fr : Nat × Nat} (h : V.heap[n]? = some (.cells #[.slice o.a o.b.length o.c, .bool o.cl] t fr)) (hb : BytesAt o.a o.b V) : OpsAt (some ⟨n, 0, none⟩) [o] V :=
 ⟨⟨rfl, fun _ => ⟨_, _, rfl, fun j u hu => by simp only [World.cell?, h]; simpa [opC] using hu⟩⟩, fun x hx => by rw [List.mem_singleton] at hx; subst hx; exact hb, by simp⟩
theorem strOf_app (a b : List Int) : strOfNums a ++ strOfNums b = strOfNums (a ++ b) := by
 apply ByteArray.ext
 simp [strOfNums]
set_option maxRecDepth 100000 in
set_option maxHeartbeats 64000000 in
theorem DriveRuns_walk (cs : Array Value) (T : TabI) (B : Option Addr) (bc : Nat) (bl : List Int) (w : World) (hC : TabC cs T) (hT : TabW T w) (hB : BytesAt B bl w) (hblc : bl.length ≤ bc) (hbc : bc ≤ 9223372036854775807) :
  Calls Tryz.prog 16 #[.agg cs, .slice B bl.length bc] w fun e w' => e = .returned (.bool true) ∧ Below w.heap.size w w' := by
 obtain ⟨wa, hwa⟩ : ∃ z, w.alloc (.cells cs 49) = z := ⟨_, rfl⟩
 have HK1 : Hid (St w wa (fun W => TabBox w.heap.size cs W ∧ TabW T W ∧ BytesAt B bl W)) := by rw [← hwa]; exact St.tbox (Lh (St.start fun W hW => ⟨hT.below hW, hB.below hW⟩)) cs
 obtain ⟨wb, hwb⟩ : ∃ z, wa.alloc (.cells #[.slice B bl.length bc, .bool false] 83) = z := ⟨_, rfl⟩
 have HKb : Hid (St w wb (fun W => OpsAt (some ⟨wa.heap.size, 0, none⟩) [⟨B, bc, bl, false⟩] W ∧ (TabBox w.heap.size cs W ∧ TabW T W ∧ BytesAt B bl W))) := Lh (by
  rw [← hwb]
  have hb : Below wa.heap.size wa (wa.alloc (.cells #[.slice B bl.length bc, .bool false] 83)) := (Below.refl _ _).alloc (Nat.le_refl _) _
  refine HK1.out.add hb fun V hV => ?_
  have h1 : V.heap[wa.heap.size]? = some (.cells #[.slice B bl.length bc, .bool false] 83 (0, 0)) := (hV.block _ (by simp)).trans (heap_alloc_new wa _)
  exact ops_oneR (o := ⟨B, bc, bl, false⟩) h1 (HK1.out.1 V (hb.trans (hV.mono hb.size))).2.2)
 have HC := Lh hC
 have hs : cs.size = 259 := hC.size
 have HI : Hid ((Tryz.prog.info? 49).map (·.size) = some cs.size) := Lh (by rw [hC.size]; exact info_tabS)
 have hbn := hB.ln
 obtain ⟨z, hz⟩ : ∃ z, z = zeroR := ⟨_, rfl⟩
 have HZ : Hid ((Tryz.prog.info? 81).map (fun i => i.zero) = some (some (.agg z))) := Lh (by rw [hz]; exact info_refZ)
 have HZS : Hid (z.size = 263) := Lh (by rw [hz]; exact zeroR_size)
 clear hC hT hB hz
 go_enter Tryz.func16, Tryz.ntmps16
 by_cases hg : GreatO T.L [⟨B, bc, bl, false⟩]
 ·have HG := Lh (pB_true hg)
  clear hg
  go_wp2_with (first
   | (refine wpList_load_row rfl 49 _ rfl w.heap.size rfl _ cs _ _ HK1.out.now.1 Tryz.underlying49 rfl HI.out ?_)
   | (go_at_call 37; (try rw [hwb]); refine (great19_st HKb cs T HC.out (fun _ h => h.2.2.1) (fun _ h => h.1) 1 true HG).mono ?_; rintro e w2 ⟨rfl, HK2⟩)
   | (go_at_call 38; refine (awake19_st HK2).mono ?_; rintro e w3 ⟨rfl, HK3⟩))
  go_ret
  exact ⟨rfl, HK3.out.2⟩
 have hsm := ops_small hg
 have hs1 := hsm.1
 have hbl6 : bl.length ≤ 600 := hsm.2.2 _ List.mem_cons_self
 have HG := Lh (pB_false hg)
 have HS := Lh hs1
 obtain ⟨v, hv⟩ : ∃ v, pB (TabOk T.L) = v := ⟨_, rfl⟩
 have HV := Lh hv
 clear hg hsm hs1 hv
 go_wp2_with (first
  | (refine wpList_load_row rfl 49 _ rfl w.heap.size rfl _ cs _ _ HK1.out.now.1 Tryz.underlying49 rfl HI.out ?_)
  | (go_at_call 37; (try rw [hwb]); refine (great19_st HKb cs T HC.out (fun _ h => h.2.2.1) (fun _ h => h.1) 1 false HG).mono ?_; rintro e w2 ⟨rfl, HK2⟩))
 refine wp_load_row 49 _ rfl w.heap.size rfl _ cs _ _ HK2.out.now.2.1 Tryz.underlying49 rfl HI.out ?_
 clear hwa hwb
 go_wp2_with fail
 refine (Run_st w2 cs T HC.out HK2.out.now.2.2.1 HS.out v HV bc (Lh fun V hV => (HK2.out.1 V hV).2.2.2) (by omega)).mono ?_
 rintro e w3 ⟨A3, c3, rfl, HB3, HO3⟩
 have HK3 : Hid (St w w3 (fun W => BytesAt A3 (runS T.L v bl).1 W ∧ (OpsAt (some ⟨wa.heap.size, 0, none⟩) [⟨B, bc, bl, false⟩] W ∧ (TabBox w.heap.size cs W ∧ TabW T W ∧ BytesAt B bl W)))) := Lh (HK2.out.add HB3.out fun V hV => by
  have hu : U8s (runS T.L v bl).1 := by
   unfold runS
   split
   ·intro x hx; cases hx
   ·split
    ·intro x hx; cases hx
    ·split
     ·intro x hx; cases hx
     ·intro x hx
      rcases List.mem_append.1 hx with h | h
      ·exact wrS_u8 _ _ _ x h
      ·exact clS_u8 _ _ x h
  exact bytes_own HO3.out hu (by have := own_cap HO3.out; omega) V fun k hk => hV.block k (own_ty HO3.out hk).2.1)
 obtain ⟨⟨o3, e3⟩, hr3⟩ : ∃ y, runS T.L v bl = y := ⟨_, rfl⟩
 rw [hr3] at HK3 ⊢
 simp only at HK3 ⊢
 have HR3 := Lh hr3
 clear hr3 HO3 HB3 HG HK1 HKb
 rcases v with _ | _
 ·have hrf : runS T.L false bl = ([], 2) := by unfold runS; simp
  have h3 := HR3.out
  rw [hrf] at h3
  simp only [Prod.mk.injEq] at h3
  obtain ⟨rfl, rfl⟩ := h3
  clear hrf
  go_wp2_with (first
   | (refine wpList_load_row rfl 49 _ rfl w.heap.size rfl _ cs _ _ HK3.out.now.2.2.1 Tryz.underlying49 rfl HI.out ?_)
   | (go_at_call 34; refine (rCheck_st HK3 cs T HC.out (fun _ h => h.2.2.2.1) false HV).mono ?_; rintro e w4 ⟨rfl, HK4⟩)
   | (go_at_call 38; refine (awake19_st HK4).mono ?_; rintro e w5 ⟨rfl, HK5⟩))
  go_ret
  exact ⟨rfl, HK5.out.2⟩
 have HOK : Hid (TabOk T.L) := Lh (pB_iff.1 HV.out)
 obtain ⟨CB, hCB⟩ : ∃ y, rdC cs 0 none 0 [] false false = y := ⟨_, rfl⟩
 have HBD : Hid (Tryz.prog.built 81 [(0, .agg cs)] = some CB) := Lh (by rw [built_ref cs hs, hCB])
 have HCB : Hid (rdV cs s00 none 0 = CB) := Lh hCB
 obtain ⟨⟨s5, o5, e5⟩, hw5⟩ : ∃ y, wrS T.L s00 bl = y := ⟨_, rfl⟩
 have HW5 := Lh hw5
 have HO5K : Hid (Drv.Ok (heldL T.L) T.L.nodes.length s5.1) := Lh (by have h := wrS_ok HOK.out (ok00 HOK.out) bl; rwa [hw5] at h)
 have HU5 : Hid (U8s o5) := Lh (by have h := wrS_u8 T.L s00 bl; rwa [hw5] at h)
 have ho5 : o5.length ≤ 64 * 600 := by
  have h1 := go_len HOK.out (s := s00.1) (ok00 HOK.out) bl
  have h2 : o5 = (Drv.go (drvM T.L) s00.1 bl).2 := by
   unfold wrS at hw5
   rw [if_neg (by decide)] at hw5
   injection hw5 with _ h; injection h with h _; exact h.symm
  rw [h2]
  have h3 : s00.1.held.length = 0 := rfl
  omega
 clear hCB hw5
 go_wp2_with (first
  | (refine wpList_load_row rfl 49 _ rfl w.heap.size rfl _ cs _ _ HK3.out.now.2.2.1 Tryz.underlying49 rfl HI.out ?_)
  | (go_at_call 34; refine (rCheck_st HK3 cs T HC.out (fun _ h => h.2.2.2.1) true HV).mono ?_; rintro e w4 ⟨rfl, HK4⟩))
 refine wp_load_row 49 _ rfl w.heap.size rfl _ cs _ _ HK4.out.now.2.2.1 Tryz.underlying49 rfl HI.out ?_
 go_wp2_with (refine wpList_buildD rfl 81 _ rfl [(0, .agg cs)] (by simp [go_sem]) CB HBD.out ?_)
 have hcall := rWrite_st (fun _ => False) w4 cs T s00 none 0 (B := B) (bl := bl) bc (Lh ⟨HC.out, HOK.out, ok00 HOK.out⟩) (Lh fun V hV => ⟨(HK4.out.1 V hV).2.2.2.1, (HK4.out.1 V hV).2.2.2.2⟩) (Lh fun V _ => BytesAt.nil_ _ _) (Lh fun k hk => hk.elim) (by omega)
 rw [HCB.out, HW5.out] at hcall
 refine hcall.mono ?_
 clear hcall
 rintro e w5 ⟨A5, c5, ha5, hc5, rfl, HB5, HO5, HH5⟩
 simp only at HO5 HH5 ⊢
 obtain ⟨C5, hC5⟩ : ∃ y, rdV cs s5 ha5 hc5 = y := ⟨_, rfl⟩
 rw [hC5]
 have HC5 := Lh hC5
 have HC5S : Hid (C5.size = 263 ∧ C5.all (·.oneCell') = true) := Lh (by rw [← hC5]; exact ⟨rdV_size hs, rdV_one HC.out⟩)
 have HI5 : Hid ((Tryz.prog.info? 81).map (·.size) = some C5.size) := Lh (by rw [HC5S.out.1]; exact info_refS)
 have HOL5 : Hid (z.size = C5.size) := Lh (by rw [HC5S.out.1, HZS.out])
 obtain ⟨w6, hw6⟩ : ∃ y, (w5.alloc (.cells z 81)).setRow w5.heap.size C5 = y := ⟨_, rfl⟩
 have hx6 : w6.heap[w5.heap.size]? = some (.cells C5 81 (0, 0)) := by rw [← hw6]; exact setRow_heap _ _ _ _ _ _ (heap_alloc_new w5 _)
 have hb6 : Below w5.heap.size w5 w6 := by rw [← hw6]; exact setRow_below ((Below.refl _ w5).alloc (Nat.le_refl _) _) (Nat.le_refl _) C5
 have HK6 : Hid (St w w6 (fun V => (RdB w5.heap.size C5 V ∧ BytesAt A5 o5 V ∧ BytesAt ha5 s5.1.held V) ∧ (BytesAt A3 o3 V ∧ (OpsAt (some ⟨wa.heap.size, 0, none⟩) [⟨B, bc, bl, false⟩] V ∧ (TabBox w.heap.size cs V ∧ TabW T V ∧ BytesAt B bl V))))) := Lh ((HK4.out.step HB5.out).add hb6 fun V hV => by
  have hV5 : Below w5.heap.size w5 V := hb6.trans (hV.mono hb6.size)
  refine ⟨(hV.block _ (Array.getElem?_eq_some_iff.1 hx6).1).trans hx6, bytes_own HO5.out HU5.out (by omega) V fun k hk => hV5.block k (own_ty HO5.out hk).2.1, HH5.out.st V hV5⟩)
 have HD6 : Hid (Dep (fun k => ¬ (fun _ => False : Nat → Prop) k) w6 (BytesAt ha5 s5.1.held)) := Lh fun V hV => HH5.out V fun k hk hl => (hV k hk (Nat.lt_of_lt_of_le hl hb6.size)).trans (hb6.block k hl)
 clear hC5 hx6 hb6 HO5 HH5 HB5 HK3 HK4
 go_upto_region 7 with (first
  | (refine wpList_allocZ rfl 81 rfl z HZ.out ?_)
  | (refine wpList_store_row rfl 81 _ _ rfl w5.heap.size C5 rfl rfl 81 z (heap_alloc_new w5 _) HI5.out HOL5.out HC5S.out.2 ?_))
 (try rw [hw6])
 by_cases he5 : e5 ≠ 0
 ·have hne : (e5 != 0) = true := by rw [bne_iff_ne]; exact he5
  have hrr : runS T.L true bl = ([], e5) := by unfold runS; rw [HW5.out]; simp [he5]
  have h3 := HR3.out
  rw [hrr] at h3
  simp only [Prod.mk.injEq] at h3
  obtain ⟨rfl, rfl⟩ := h3
  have heq : (e5 == e5) = true := by simp
  clear hrr he5
  go_wp2_with (go_at_call 38; (try rw [hw6]); refine (awake19_st HK6).mono ?_; rintro e w7 ⟨rfl, HK7⟩)
  go_ret
  exact ⟨rfl, HK7.out.2⟩
 obtain rfl : e5 = 0 := Classical.not_not.1 he5
 obtain ⟨⟨s7, o7, e7⟩, hw7⟩ : ∃ y, clS T.L s5 = y := ⟨_, rfl⟩
 have HW7 := Lh hw7
 have HU7 : Hid (U8s o7) := Lh (by have h := clS_u8 T.L s5; rwa [hw7] at h)
 have ho7 : o7.length ≤ 64 := by have h := Nat.le_trans (clS_most (T := T.L) s5) (most64 HOK.out); rwa [hw7] at h
 clear he5 hw7
 go_wp2_with (refine wpList_load_row rfl 81 _ rfl w5.heap.size rfl _ C5 _ _ HK6.out.now.1.1 Tryz.underlying81 rfl HI5.out ?_)
 (try rw [hw6])
 have hcall := rClose_st (fun _ => False) w6 cs T s5 ha5 hc5 (Lh ⟨HC.out, HOK.out, HO5K.out⟩) (Lh fun V hV => (HK6.out.1 V hV).2.2.2.2.1) HD6
 rw [HC5.out, HW7.out] at hcall
 refine hcall.mono ?_
 clear hcall hw6
 rintro e w7 ⟨A7, c7, ha7, hc7, rfl, HB7, HO7, HH7⟩
 simp only at HO7 HH7 ⊢
 obtain ⟨C7, hC7⟩ : ∃ y, rdV cs s7 ha7 hc7 = y := ⟨_, rfl⟩
 rw [hC7]
 have HC7S : Hid (C7.size = 263 ∧ C7.all (·.oneCell') = true) := Lh (by rw [← hC7]; exact ⟨rdV_size hs, rdV_one HC.out⟩)
 have HI7 : Hid ((Tryz.prog.info? 81).map (·.size) = some C7.size) := Lh (by rw [HC7S.out.1]; exact info_refS)
 have HOL7 : Hid (z.size = C7.size) := Lh (by rw [HC7S.out.1, HZS.out])
 obtain ⟨w8, hw8⟩ : ∃ y, (w7.alloc (.cells z 81)).setRow w7.heap.size C7 = y := ⟨_, rfl⟩
 have hb8 : Below w7.heap.size w7 w8 := by rw [← hw8]; exact setRow_below ((Below.refl _ w7).alloc (Nat.le_refl _) _) (Nat.le_refl _) C7
 have HK8 : Hid (St w w8 (fun V => BytesAt A7 o7 V ∧ ((RdB w5.heap.size C5 V ∧ BytesAt A5 o5 V ∧ BytesAt ha5 s5.1.held V) ∧ (BytesAt A3 o3 V ∧ (OpsAt (some ⟨wa.heap.size, 0, none⟩) [⟨B, bc, bl, false⟩] V ∧ (TabBox w.heap.size cs V ∧ TabW T V ∧ BytesAt B bl V)))))) := Lh ((HK6.out.step HB7.out).add hb8 fun V hV => by
  have hV7 : Below w7.heap.size w7 V := hb8.trans (hV.mono hb8.size)
  exact bytes_own HO7.out HU7.out (by omega) V fun k hk => hV7.block k (own_ty HO7.out hk).2.1)
 clear hC7 hb8 HO7 HH7 HB7 HK6
 go_upto_region 10 with (first
  | (refine wpList_allocZ rfl 81 rfl z HZ.out ?_)
  | (refine wpList_store_row rfl 81 _ _ rfl w7.heap.size C7 rfl rfl 81 z (heap_alloc_new w7 _) HI7.out HOL7.out HC7S.out.2 ?_))
 (try rw [hw8])
 by_cases he7 : e7 ≠ 0
 ·have hne : (e7 != 0) = true := by rw [bne_iff_ne]; exact he7
  have hrr : runS T.L true bl = ([], e7) := by unfold runS; rw [HW5.out]; simp [HW7.out, he7]
  have h3 := HR3.out
  rw [hrr] at h3
  simp only [Prod.mk.injEq] at h3
  obtain ⟨rfl, rfl⟩ := h3
  have heq : (e7 == e7) = true := by simp
  clear hrr he7
  go_wp2_with (go_at_call 38; (try rw [hw8]); refine (awake19_st HK8).mono ?_; rintro e w9 ⟨rfl, HK9⟩)
  go_ret
  exact ⟨rfl, HK9.out.2⟩
 obtain rfl : e7 = 0 := Classical.not_not.1 he7
 have hrr : runS T.L true bl = (o5 ++ o7, 0) := by unfold runS; rw [HW5.out]; simp [HW7.out]
 have h3 := HR3.out
 rw [hrr] at h3
 simp only [Prod.mk.injEq] at h3
 obtain ⟨rfl, rfl⟩ := h3
 have hcv := fun (A : Option Addr) (c : Nat) (l : List Int) (h : BytesAt A l w8) => run_conv_str (P := Tryz.prog) w8 79 5 Tryz.underlying79 Tryz.underlying5 A l.length c l (by have h := h.sl; rwa [← List.map_eq_flatMap] at h) 9 Tryz.underlying9
 have h3c := hcv A3 c3 (o5 ++ o7) HK8.out.now.2.2.1
 rw [List.length_append] at h3c
 have h5c := hcv A5 c5 o5 HK8.out.now.2.1.2.1
 have h7c := hcv A7 c7 o7 HK8.out.now.1
 have hsa : strOfNums o5 ++ strOfNums o7 = strOfNums (o5 ++ o7) := strOf_app o5 o7
 have hz1 : ¬ 9223372036854775807 < (strOfNums o5).size + (strOfNums o7).size := by rw [strOfNums_size, strOfNums_size]; omega
 clear hrr hcv he7
 go_wp2_with (go_at_call 38; (try rw [hw8]); refine (awake19_st HK8).mono ?_; rintro e w9 ⟨rfl, HK9⟩)
 go_ret
 exact ⟨rfl, HK9.out.2⟩
end Go.Proofs.YtlmkokeapbleoaaGreat
