/- Contracts and plain laws that the proof leans on. Condition: as each theorem says. -/
import Derived.Test.YtlmkokeapbleoaaGreatV14
import Derived.Test.YtlmkokeapbleoaaGreatV13
import Derived.Deep.CutBlock
import Derived.Test.YtlmkokeapbleoaaGreatV01
import Derived.Deep.RegionWith
set_option maxRecDepth 100000
set_option maxHeartbeats 64000000
set_option linter.unusedVariables false
set_option linter.unusedSimpArgs false
namespace Go.Proofs.YtlmkokeapbleoaaGreat
open Go.RowKit
section
theorem zeroTab_W' (W : World) : TabW zeroTab W := ⟨RowsAt.nil_ _ _ _ _ _, RowsAt.nil_ _ _ _ _ _, RowsAt.nil_ _ _ _ _ _⟩
theorem zeroTab_F (W : World) : TabF zeroTab W := ⟨fun g off e => (by cases e), fun x hx => (by cases hx), fun g off e => (by cases e), fun x hx => (by cases hx)⟩
theorem built_mk (i o n s : Int) (ra fa : Option Addr) (rl rc fl fc N x0 x1 x2 x3 x4 : Nat) : Tryz.prog.built 143 [(0, .agg #[.int .i64 i, .int .i64 o, .int .i64 n, .int .i64 s, .slice ra rl rc, .slice fa fl fc]), (2, .slice (some ⟨x0, 0, none⟩) N N), (3, .slice (some ⟨x1, 0, none⟩) N N), (5, .map (some x2)), (6, .map (some x3)), (7, .map (some x4))]
  = some ([Value.int .i64 i, .int .i64 o, .int .i64 n, .int .i64 s, .slice ra rl rc, .slice fa fl fc, .slice none 0 0, .slice (some ⟨x0, 0, none⟩) N N, .slice (some ⟨x1, 0, none⟩) N N, .slice none 0 0, .map (some x2), .map (some x3), .map (some x4)] ++ (List.replicate 256 (Value.int .u8 0) ++ [Value.slice none 0 0, Value.slice none 0 0, Value.slice none 0 0])).toArray := by kernel_rfl
theorem infoNodeS : (Tryz.prog.info? 64).map (·.size) = some 3 := by kernel_rfl
theorem infoRi : (Tryz.prog.info? 62).map (fun i => (i.zero, i.size, i.bytes)) = some (some (.slice none 0 0), 1, 24) := by kernel_rfl
section
variable {w0 w : World} {F : World → Prop}
theorem comp_bad {d : DescI} {v : Int} (hK : Hid (St w0 w F)) {a : Act} {W : World} {tb : Nat} (hd : a.defers = []) (h2 : a.tmps.getD 2 undef = .pointer (some ⟨tb, 0, none⟩)) (h3 : a.tmps.getD 3 undef = .int .i64 v)
  {cs0 : Array Value} (hg : W.heap[tb]? = some (.cells cs0 49 (0, 0))) (hbl : Below w.heap.size w W) (htb : w.heap.size ≤ tb) (hs : CompSaid d zeroTab.L v) :
  bodyPost Tryz.prog Tryz.f28 (RetCompN w0 w d F) .ret a (W.setRow tb zeroT) := by
 have hb : Below w.heap.size w (W.setRow tb zeroT) := hbl.trans ⟨rfl, rfl, rfl, by simp [World.setRow], fun k hk => setRow_other _ _ _ _ (by omega)⟩
 exact bodyPost_ret (v := .tuple #[.agg zeroT, .int .i64 v]) (results_row2 rfl _ _ _ _ _ _ _ _ h2 h3 (setRow_heap _ _ _ _ _ _ hg) Tryz.underlying49 rfl info_tabS') hd
  ⟨zeroT, zeroTab, v, rfl, Lh zeroT_C, Lh ((hK.out.step hb).weaken fun W h => ⟨zeroTab_W' W, h⟩), Lh hs, Lh fun U _ => ⟨zeroTab_W' U, zeroTab_F U⟩, Lh hb⟩
theorem comp_end {d : DescI} {v : Int} {T : TabI} {cs : Array Value} (hK : Hid (St w0 w F)) {a : Act} {W : World} {tb : Nat} (hd : a.defers = []) (h2 : a.tmps.getD 2 undef = .pointer (some ⟨tb, 0, none⟩)) (h3 : a.tmps.getD 3 undef = .int .i64 v)
  (hg : W.heap[tb]? = some (.cells zeroT 49 (0, 0))) (hbl : Below w.heap.size w W) (htb : w.heap.size ≤ tb) (hC : TabC cs T) (hW : TabW T (W.setRow tb cs)) (hs : CompSaid d T.L v) (hDp : Dep (fun k => w.heap.size ≤ k) (W.setRow tb cs) (fun W => TabW T W ∧ TabF T W)) :
  bodyPost Tryz.prog Tryz.f28 (RetCompN w0 w d F) .ret a (W.setRow tb cs) := by
 have hb : Below w.heap.size w (W.setRow tb cs) := hbl.trans ⟨rfl, rfl, rfl, by simp [World.setRow], fun k hk => setRow_other _ _ _ _ (by omega)⟩
 exact bodyPost_ret (v := .tuple #[.agg cs, .int .i64 v]) (results_row2 rfl _ _ _ _ _ _ _ _ h2 h3 (setRow_heap _ _ _ _ _ _ hg) Tryz.underlying49 rfl (by rw [hC.size]; exact info_tabS)) hd
  ⟨cs, T, v, rfl, Lh hC, Lh (hK.out.add hb fun V hV => TabW.below hW hV), Lh hs, Lh hDp, Lh hb⟩
theorem compile_stN (hK : Hid (St w0 w F)) (d : DescI) (hd : ∀ W, F W → DescW d W) (hst : StageD d) :
  Calls Tryz.prog 28 #[.agg #[.int .i64 d.i, .int .i64 d.o, .int .i64 d.n, .int .i64 d.s, .slice d.ra d.rs.length d.rc, .slice d.fa d.fs.length d.fc]] w (RetCompN w0 w d F) := by
 have HD := Lh hd
 have HST := Lh hst
 obtain ⟨v, hv⟩ : ∃ v, pB (DescOk d.L) = v := ⟨_, rfl⟩
 have HV := Lh hv
 have HK1 := St.box hK [.int .i64 d.i, .int .i64 d.o, .int .i64 d.n, .int .i64 d.s, .slice d.ra d.rs.length d.rc, .slice d.fa d.fs.length d.fc] 26
 obtain ⟨wa, hwa⟩ : ∃ z, w.alloc (.cells [.int .i64 d.i, .int .i64 d.o, .int .i64 d.n, .int .i64 d.s, .slice d.ra d.rs.length d.rc, .slice d.fa d.fs.length d.fc].toArray 26) = z := ⟨_, rfl⟩
 have hsa : wa.heap.size = w.heap.size + 1 := by rw [← hwa]; simp
 rw [hwa] at HK1
 obtain ⟨w1, hw1⟩ : ∃ z, wa.alloc (.cells zeroT 49) = z := ⟨_, rfl⟩
 have hb1 : Below wa.heap.size wa w1 := by rw [← hw1]; exact (Below.refl _ _).alloc (Nat.le_refl _) _
 have hz1 : w1.heap[wa.heap.size]? = some (.cells zeroT 49 (0, 0)) := by rw [← hw1]; exact heap_alloc_new wa _
 have HKZ := Lh (HK1.out.add hb1 (G := fun W => W.heap[wa.heap.size]? = some (.cells zeroT 49 (0, 0))) fun W hW => (hW.block _ (Array.getElem?_eq_some_iff.1 hz1).1).trans hz1)
 obtain ⟨F3, hF3⟩ : ∃ G : World → Prop, (fun W => W.heap[wa.heap.size]? = some (.cells zeroT 49 (0, 0)) ∧ BoxC w.heap.size [.int .i64 d.i, .int .i64 d.o, .int .i64 d.n, .int .i64 d.s, .slice d.ra d.rs.length d.rc, .slice d.fa d.fs.length d.fc] W ∧ F W) = G := ⟨_, rfl⟩
 have HF3 : Hid (∀ W, F3 W → W.heap[wa.heap.size]? = some (.cells zeroT 49 (0, 0)) ∧ BoxC w.heap.size [.int .i64 d.i, .int .i64 d.o, .int .i64 d.n, .int .i64 d.s, .slice d.ra d.rs.length d.rc, .slice d.fa d.fs.length d.fc] W ∧ F W) := Lh fun W h => by rw [← hF3] at h; exact h
 rw [hF3] at HKZ
 have HB1 : Hid (Below w.heap.size w w1) := Lh (by rw [← hw1, ← hwa]; exact ((Below.refl _ _).alloc (Nat.le_refl _) _).alloc (by simp) _)
 have HSA := Lh hsa
 have HW1 := Lh hw1
 have HWA := Lh hwa
 obtain ⟨q0, q1, q2, q3, q4, q5⟩ := (HF3.out _ HKZ.out.now).2.1.c6
 have hwa2 : w.alloc (.cells #[.int .i64 d.i, .int .i64 d.o, .int .i64 d.n, .int .i64 d.s, .slice d.ra d.rs.length d.rc, .slice d.fa d.fs.length d.fc] 26) = wa := hwa
 clear hd hst hv hF3 hwa hz1 hb1 HK1 hsa
 go_enter Tryz.func28, Tryz.ntmps28
 go_wp2_with (first | (refine wpList_allocZ rfl 49 rfl zeroT info_tabZ ?_))
 have HKH := St.here HKZ
 refine (dCheck_st HKH d (fun W h => HD.out W (HF3.out W h).2.2) v HV HST.out).mono ?_
 rintro e w2 hret
 rcases v with _ | _
 ·obtain ⟨rfl, HK2⟩ : RetV w1 (.int .i64 2) F3 e w2 := by simpa using hret
  have HZ2 := Lh (HF3.out _ HK2.out.now).1
  have HNO : Hid (¬ DescOk d.L) := Lh fun h => Bool.noConfusion (pB_t HV.out h)
  have HBE2 : Hid (Below w.heap.size w w2) := Lh (HB1.out.trans (HK2.out.2.mono HB1.out.size))
  clear hret
  go_wp2_with (first | (refine wpList_buildZ rfl 49 rfl zeroT built_tab ?_) | (refine wpList_store_row rfl 49 _ _ rfl wa.heap.size zeroT rfl rfl 49 zeroT HZ2.out info_tabS' rfl (cells_one zeroT_C) ?_))
  exact comp_bad hK rfl rfl rfl HZ2.out HBE2.out (by have := HSA.out; omega) (.inl ⟨rfl, fun h => HNO.out h.1, rfl⟩)
 have HOK : Hid (DescOk d.L) := Lh (Classical.byContradiction fun hn => by have h := pB_f HV.out hn; cases h)
 obtain ⟨rfl, HK2⟩ : RetV w1 (.int .i64 0) F3 e w2 := by simpa using hret
 have HZ2 := Lh (HF3.out _ HK2.out.now).1
 have HBE2 : Hid (Below w.heap.size w w2) := Lh (HB1.out.trans (HK2.out.2.mono HB1.out.size))
 obtain ⟨q0, q1, q2, q3, q4, q5⟩ := (HF3.out _ HK2.out.now).2.1.c6
 clear hret
 obtain ⟨di, hdi⟩ : ∃ z, d.i = z := ⟨_, rfl⟩
 obtain ⟨do_, hdo⟩ : ∃ z, d.o = z := ⟨_, rfl⟩
 have HDI := Lh hdi
 have HDO := Lh hdo
 rw [hdi, hdo]
 rw [hdi] at q0
 rw [hdo] at q1
 by_cases hi1 : di = 1
 case neg =>
  have HNO : Hid (¬ (DescOk d.L ∧ d.i = 1 ∧ d.o = 1)) := Lh fun h => hi1 (by rw [← HDI.out]; exact h.2.1)
  clear hdi hdo
  go_wp2_with (first | (refine wpList_buildZ rfl 49 rfl zeroT built_tab ?_) | (refine wpList_store_row rfl 49 _ _ rfl wa.heap.size zeroT rfl rfl 49 zeroT HZ2.out info_tabS' rfl (cells_one zeroT_C) ?_))
  exact comp_bad hK rfl rfl rfl HZ2.out HBE2.out (by have := HSA.out; omega) (.inl ⟨rfl, HNO.out, rfl⟩)
 by_cases ho1 : do_ = 1
 case neg =>
  have HNO : Hid (¬ (DescOk d.L ∧ d.i = 1 ∧ d.o = 1)) := Lh fun h => ho1 (by rw [← HDO.out]; exact h.2.2)
  clear hdi hdo
  go_wp2_with (first | (refine wpList_buildZ rfl 49 rfl zeroT built_tab ?_) | (refine wpList_store_row rfl 49 _ _ rfl wa.heap.size zeroT rfl rfl 49 zeroT HZ2.out info_tabS' rfl (cells_one zeroT_C) ?_))
  exact comp_bad hK rfl rfl rfl HZ2.out HBE2.out (by have := HSA.out; omega) (.inl ⟨rfl, HNO.out, rfl⟩)
 subst hi1 ho1
 have HYES : Hid (DescOk d.L ∧ d.i = 1 ∧ d.o = 1) := Lh ⟨HOK.out, HDI.out, HDO.out⟩
 obtain ⟨fv, hfv⟩ : ∃ fv, pB (FreeI d.rs) = fv := ⟨_, rfl⟩
 have HFV := Lh hfv
 clear hdi hdo hfv
 go_wp2_with fail
 have hc3 := Free_st (St.here HK2) d (fun W h => HD.out W (HF3.out W h).2.2) fv HFV
 rw [HDI.out, HDO.out] at hc3
 refine hc3.mono ?_
 rintro e w3 ⟨rfl, HK3⟩
 have HZ3 := Lh (HF3.out _ HK3.out.now).1
 have HBE3 : Hid (Below w.heap.size w w3) := Lh (HBE2.out.trans (HK3.out.2.mono HBE2.out.size))
 obtain ⟨q0, q1, q2, q3, q4, q5⟩ := (HF3.out _ HK3.out.now).2.1.c6
 rw [HDI.out] at q0
 rw [HDO.out] at q1
 clear hc3
 rcases fv with _ | _
 ·have HNO : Hid (¬ FreeI d.rs) := Lh fun h => Bool.noConfusion (pB_t HFV.out h)
  go_wp2_with (first | (refine wpList_buildZ rfl 49 rfl zeroT built_tab ?_) | (refine wpList_store_row rfl 49 _ _ rfl wa.heap.size zeroT rfl rfl 49 zeroT HZ3.out info_tabS' rfl (cells_one zeroT_C) ?_))
  exact comp_bad hK rfl rfl rfl HZ3.out HBE3.out (by have := HSA.out; omega) (.inr ⟨HYES.out, .inl ⟨rfl, HNO.out, rfl⟩⟩)
 have HFR : Hid (FreeI d.rs) := Lh (Classical.byContradiction fun hn => by have h := pB_f HFV.out hn; cases h)
 obtain ⟨cv, hcv⟩ : ∃ cv, pB (DClash d.L) = cv := ⟨_, rfl⟩
 have HCV := Lh hcv
 clear hcv
 go_wp2_with fail
 have hc4 := Sole_st (St.here HK3) d (fun W h => HD.out W (HF3.out W h).2.2) HOK cv HCV HST.out
 rw [HDI.out, HDO.out] at hc4
 refine hc4.mono ?_
 rintro e w4 ⟨rfl, HK4⟩
 have HZ4 := Lh (HF3.out _ HK4.out.now).1
 have HBE4 : Hid (Below w.heap.size w w4) := Lh (HBE3.out.trans (HK4.out.2.mono HBE3.out.size))
 obtain ⟨q0, q1, q2, q3, q4, q5⟩ := (HF3.out _ HK4.out.now).2.1.c6
 rw [HDI.out] at q0
 rw [HDO.out] at q1
 clear hc4
 rcases cv with _ | _
 case true =>
  have HNO : Hid (DClash d.L) := Lh (Classical.byContradiction fun hn => by have h := pB_f HCV.out hn; cases h)
  go_wp2_with (first | (refine wpList_buildZ rfl 49 rfl zeroT built_tab ?_) | (refine wpList_store_row rfl 49 _ _ rfl wa.heap.size zeroT rfl rfl 49 zeroT HZ4.out info_tabS' rfl (cells_one zeroT_C) ?_))
  exact comp_bad hK rfl rfl rfl HZ4.out HBE4.out (by have := HSA.out; omega) (.inr ⟨HYES.out, .inr ⟨HFR.out, .inl ⟨rfl, HNO.out, rfl⟩⟩⟩)
 have HNC : Hid (¬ DClash d.L) := Lh fun h => Bool.noConfusion (pB_t HCV.out h)
 have hmm := @run_makeMap Tryz.prog
 obtain ⟨N, hN⟩ : ∃ N : Nat, d.n = (N : Int) := Int.eq_ofNat_of_zero_le (by have := HOK.out.head.2.2.1; have e : d.L.n = d.n := rfl; omega)
 have hN4 : N ≤ 1024 := by have := HOK.out.head.2.2.2.1; have e : d.L.n = d.n := rfl; omega
 have hmk1 : ∀ w : World, (Instr.makeSlice 138 (.int .i64 d.n) (.int .i64 d.n)).run Tryz.prog w = .ok (.slice (some ⟨w.heap.size, 0, none⟩) N N) (w.alloc (.cells (madeCells #[.slice none 0 0] N) 62)) := fun w => by
  rw [hN]
  exact run_make_row' 138 62 (.slice none 0 0) 24 Tryz.underlying138 infoRi rfl .i64 .i64 N (by omega) (by omega) w
 have HN := Lh hN
 clear hN
 go_wp2_with fail
 go_cut [6] (fun v wq => ∃ mb nb ab eb rb fb : Nat, v = .pointer (some ⟨mb, 0, none⟩) ∧ Hid (MkS d w4.heap.size mb nb ab eb rb fb N wq) ∧ Hid (Below w4.heap.size w4 wq))
 case first =>
  have hkeep : ∀ W, Below w4.heap.size w4 W → W.cell? ⟨w.heap.size, 0, none⟩ = some (.int .i64 1) ∧ W.cell? ⟨w.heap.size, 1, none⟩ = some (.int .i64 1) ∧ W.cell? ⟨w.heap.size, 2, none⟩ = some (.int .i64 d.n) ∧ W.cell? ⟨w.heap.size, 3, none⟩ = some (.int .i64 d.s) ∧ W.cell? ⟨w.heap.size, 4, none⟩ = some (.slice d.ra d.rs.length d.rc) ∧ W.cell? ⟨w.heap.size, 5, none⟩ = some (.slice d.fa d.fs.length d.fc) := fun W hW => by
   obtain ⟨p0, p1, p2, p3, p4, p5⟩ := (HF3.out _ (HK4.out.1 W hW)).2.1.c6
   rw [HDI.out] at p0
   rw [HDO.out] at p1
   exact ⟨p0, p1, p2, p3, p4, p5⟩
  have HKP := Lh hkeep
  clear hkeep
  obtain ⟨w5, hw5⟩ : ∃ z, w4.drew = z := ⟨_, rfl⟩
  have hb5 : Below w4.heap.size w4 w5 := by rw [← hw5]; exact (Below.refl _ _).drew
  have hs5 : w5.heap.size = w4.heap.size := by rw [← hw5]; rfl
  have HB5 := Lh hb5
  have HS5 := Lh hs5
  clear hs5 hb5
  refine wp_region_Z 12 (by kernel_rfl) (fun W => W.cell? ⟨w.heap.size, 0, none⟩ = some (.int .i64 1) ∧ W.cell? ⟨w.heap.size, 1, none⟩ = some (.int .i64 1) ∧ W.cell? ⟨w.heap.size, 2, none⟩ = some (.int .i64 d.n) ∧ W.cell? ⟨w.heap.size, 3, none⟩ = some (.int .i64 d.s) ∧ W.cell? ⟨w.heap.size, 4, none⟩ = some (.slice d.ra d.rs.length d.rc) ∧ W.cell? ⟨w.heap.size, 5, none⟩ = some (.slice d.fa d.fs.length d.fc)) (by rw [hw5]; exact HKP.out _ HB5.out) (fun hHeld => ?_)
  refine zt (v := ?_) 0 rfl ?_ ?_
  rotate_left
  ·intro w hSw; (try dsimp only at hSw); go_simp; (try with_reducible rfl)
  (try simp only [Act.put, zq1, zq2, zq3, zq4, zq5, zq6])
  refine zt (v := ?_) 1 rfl ?_ ?_
  rotate_left
  ·intro w hSw; (try dsimp only at hSw); go_simp; (try with_reducible rfl)
  (try simp only [Act.put, zq1, zq2, zq3, zq4, zq5, zq6])
  refine zt (v := ?_) 2 rfl ?_ ?_
  rotate_left
  ·intro w hSw; (try dsimp only at hSw); go_simp; (try with_reducible rfl)
  (try simp only [Act.put, zq1, zq2, zq3, zq4, zq5, zq6])
  refine zt (v := ?_) 4 rfl ?_ ?_
  rotate_left
  ·intro w hSw; (try dsimp only at hSw); go_simp; (try with_reducible rfl)
  (try simp only [Act.put, zq1, zq2, zq3, zq4, zq5, zq6])
  refine zt (v := ?_) 5 rfl ?_ ?_
  rotate_left
  ·intro w hSw; (try dsimp only at hSw); go_simp; (try with_reducible rfl)
  (try simp only [Act.put, zq1, zq2, zq3, zq4, zq5, zq6])
  rw [hw5]
  refine makes5_at 3 (fun k => [3, 6, 7, 8, 9].getD k 0) (fun k => [43, 46, 47, 48, 49].getD k 0) (fun k x => if k < 2 then .slice (some ⟨x, 0, none⟩) N N else .map (some x)) (fun k => if k < 2 then .cells (madeCells #[.slice none 0 0] N) 62 else .map #[] 0)
   (fun b => #[true, true, true, (b 0).isSome, true, true, (b 1).isSome, (b 2).isSome, (b 3).isSome, (b 4).isSome, false, false, false]) (by rfl) ?hd ?hr ?hL (fun W hW => HKP.out W (HB5.out.trans (hW.mono (by have := HS5.out; omega)))) ?hx ?hend
  case hd =>
   intro j k hj hk hne
   have h1 : j = 0 ∨ j = 1 ∨ j = 2 ∨ j = 3 ∨ j = 4 := by omega
   have h2 : k = 0 ∨ k = 1 ∨ k = 2 ∨ k = 3 ∨ k = 4 := by omega
   rcases h1 with rfl | rfl | rfl | rfl | rfl <;> rcases h2 with rfl | rfl | rfl | rfl | rfl <;> first | exact absurd rfl hne | decide
  case hr =>
   rintro b ⟨k, hk, hb⟩
   refine chk5_spec (ix := [3, 6, 7, 8, 9]) ?_
   show chk5 [3, 6, 7, 8, 9] [(b 0).isSome, (b 1).isSome, (b 2).isSome, (b 3).isSome, (b 4).isSome] (Region.ready .any _ #[true, true, true, (b 0).isSome, true, true, (b 1).isSome, (b 2).isSome, (b 3).isSome, (b 4).isSome, false, false, false]) = true
   have hall : ¬ ((b 0).isSome = true ∧ (b 1).isSome = true ∧ (b 2).isSome = true ∧ (b 3).isSome = true ∧ (b 4).isSome = true) := fun h => by
    have h5 : k = 0 ∨ k = 1 ∨ k = 2 ∨ k = 3 ∨ k = 4 := by omega
    rcases h5 with rfl | rfl | rfl | rfl | rfl <;> simp [hb] at h
   generalize (b 0).isSome = f0 at hall ⊢
   generalize (b 1).isSome = f1 at hall ⊢
   generalize (b 2).isSome = f2 at hall ⊢
   generalize (b 3).isSome = f3 at hall ⊢
   generalize (b 4).isSome = f4 at hall ⊢
   clear hHeld
   cases f0 <;> cases f1 <;> cases f2 <;> cases f3 <;> cases f4 <;> first | (exact absurd ⟨rfl, rfl, rfl, rfl, rfl⟩ hall) | (refine Eq.trans ?_ (rfl : true = true); kernel_rfl)
  case hL =>
   intro b k x hk hb
   have h5 : k = 0 ∨ k = 1 ∨ k = 2 ∨ k = 3 ∨ k = 4 := by omega
   rcases h5 with rfl | rfl | rfl | rfl | rfl <;> rfl
  case hx =>
   intro k b wq K hk hK
   have h5 : k = 0 ∨ k = 1 ∨ k = 2 ∨ k = 3 ∨ k = 4 := by omega
   have hev : ∀ t, t = 42 ∨ t = 45 → ∀ (a0 : Act), (actsB (fun k => [43, 46, 47, 48, 49].getD k 0) (fun k x => if k < 2 then .slice (some ⟨x, 0, none⟩) N N else .map (some x)) a0 b).eval (.tmp t) = a0.eval (.tmp t) := fun t ht a0 => actsB_eval fun k hk => by
    have h5 : k = 0 ∨ k = 1 ∨ k = 2 ∨ k = 3 ∨ k = 4 := by omega
    rcases ht with rfl | rfl <;> rcases h5 with rfl | rfl | rfl | rfl | rfl <;> decide
   rcases h5 with rfl | rfl | rfl | rfl | rfl
   ·refine wpOp_step rfl fun K' hK' => ?_
    rw [if_pos (by rfl)]
    refine wp_makeSlice rfl ((hev 42 (.inl rfl) _).trans rfl) ((hev 42 (.inl rfl) _).trans rfl) (hmk1 wq) ?_
    exact hK' _ _ hK
   ·refine wpOp_step rfl fun K' hK' => ?_
    rw [if_pos (by rfl)]
    refine wp_makeSlice rfl ((hev 45 (.inr rfl) _).trans rfl) ((hev 45 (.inr rfl) _).trans rfl) (hmk1 wq) ?_
    exact hK' _ _ hK
   all_goals
    refine wpOp_step rfl fun K' hK' => ?_
    rw [if_pos (by rfl)]
    refine wp_makeMap rfl ?_
    exact hK' _ _ hK
  case hend =>
   intro b w6 hsome hJ
   obtain ⟨x0, hx0⟩ := Option.ne_none_iff_exists'.1 (hsome 0 (by omega))
   obtain ⟨x1, hx1⟩ := Option.ne_none_iff_exists'.1 (hsome 1 (by omega))
   obtain ⟨x2, hx2⟩ := Option.ne_none_iff_exists'.1 (hsome 2 (by omega))
   obtain ⟨x3, hx3⟩ := Option.ne_none_iff_exists'.1 (hsome 3 (by omega))
   obtain ⟨x4, hx4⟩ := Option.ne_none_iff_exists'.1 (hsome 4 (by omega))
   have HJ := Lh hJ
   have H0 := Lh hx0
   have H1 := Lh hx1
   have H2 := Lh hx2
   have H3 := Lh hx3
   have H4 := Lh hx4
   unfold actsB
   rw [hx0, hx1, hx2, hx3, hx4]
   clear hx0 hx1 hx2 hx3 hx4 hsome hJ
   simp only [putO, List.getD_cons_zero, List.getD_cons_succ, show (0 : Nat) < 2 from by decide, show (1 : Nat) < 2 from by decide, show ¬ (2 : Nat) < 2 from by decide, show ¬ (3 : Nat) < 2 from by decide, show ¬ (4 : Nat) < 2 from by decide, if_true, if_false]
   (try simp only [Act.put, zq1, zq2, zq3, zq4, zq5, zq6])
   have hb6 := HJ.out.bel
   have hk6 := HKP.out w6 (HB5.out.trans (hb6.mono (by have := HS5.out; omega)))
   refine zr 10 rfl fun K hK => ?_
   rw [if_pos (by rfl)]
   refine wp_buildC (l := [(0, .agg #[.int .i64 1, .int .i64 1, .int .i64 d.n, .int .i64 d.s, .slice d.ra d.rs.length d.rc, .slice d.fa d.fs.length d.fc]), (2, .slice (some ⟨x0, 0, none⟩) N N), (3, .slice (some ⟨x1, 0, none⟩) N N), (5, .map (some x2)), (6, .map (some x3)), (7, .map (some x4))]) rfl (by simp [Act.eval]) (built_mk 1 1 d.n d.s d.ra d.fa d.rs.length d.rc d.fs.length d.fc N x0 x1 x2 x3 x4) ?_
   refine hK.out _ _ hk6 (fun _ => ?_)
   clear hK K
   have hk7 := fun o => HKP.out (w6.alloc o) ((HB5.out.trans (hb6.mono (by have := HS5.out; omega))).alloc (by have := hb6.size; have := HS5.out; omega) o)
   refine zr 11 rfl fun K hK => ?_
   rw [if_pos (by rfl)]
   refine wp_boxC rfl rfl ?_
   refine hK.out _ _ (hk7 _) (fun _ => ?_)
   clear hK K
   refine wpAnyZ_last (i := 12) rfl (by kernel_rfl) (by kernel_rfl) rfl (fun K hK => ?_)
   go_simp
   refine hK.out _ _ ?_
   clear hK K
   go_wp2_with fail
   go_meet
   have hn4 : w4.heap.size ≤ w6.heap.size := by have := HJ.out.bel.size; have := HS5.out; omega
   have a0 : w4.heap.size ≤ x0 ∧ w6.heap[x0]? = some (.cells (madeCells #[.slice none 0 0] N) 62 (0, 0)) := ⟨by have := (HJ.out.at_ 0 x0 (by omega) H0.out).1; have := HS5.out; omega, (HJ.out.at_ 0 x0 (by omega) H0.out).2⟩
   have a1 : w4.heap.size ≤ x1 ∧ w6.heap[x1]? = some (.cells (madeCells #[.slice none 0 0] N) 62 (0, 0)) := ⟨by have := (HJ.out.at_ 1 x1 (by omega) H1.out).1; have := HS5.out; omega, (HJ.out.at_ 1 x1 (by omega) H1.out).2⟩
   have a2 : w4.heap.size ≤ x2 ∧ w6.heap[x2]? = some (.map #[] 0) := ⟨by have := (HJ.out.at_ 2 x2 (by omega) H2.out).1; have := HS5.out; omega, (HJ.out.at_ 2 x2 (by omega) H2.out).2⟩
   have a3 : w4.heap.size ≤ x3 ∧ w6.heap[x3]? = some (.map #[] 0) := ⟨by have := (HJ.out.at_ 3 x3 (by omega) H3.out).1; have := HS5.out; omega, (HJ.out.at_ 3 x3 (by omega) H3.out).2⟩
   have a4 : w4.heap.size ≤ x4 ∧ w6.heap[x4]? = some (.map #[] 0) := ⟨by have := (HJ.out.at_ 4 x4 (by omega) H4.out).1; have := HS5.out; omega, (HJ.out.at_ 4 x4 (by omega) H4.out).2⟩
   have hdis : x2 ≠ x3 ∧ x2 ≠ x4 ∧ x3 ≠ x4 ∧ x0 ≠ x1 := ⟨fun e => HJ.out.dis 2 3 x2 (by omega) (by omega) (by omega) H2.out (by rw [H3.out, e]), fun e => HJ.out.dis 2 4 x2 (by omega) (by omega) (by omega) H2.out (by rw [H4.out, e]), fun e => HJ.out.dis 3 4 x3 (by omega) (by omega) (by omega) H3.out (by rw [H4.out, e]), fun e => HJ.out.dis 0 1 x0 (by omega) (by omega) (by omega) H0.out (by rw [H1.out, e])⟩
   refine ⟨w6.heap.size, x2, x3, x4, x0, x1, rfl, Lh (mkS_of hn4 a0 a1 a2 a3 a4 hdis ?_), Lh ((HB5.out.trans (HJ.out.bel.mono (by have := HS5.out; omega))).alloc hn4 _)⟩
   simp only [mkCells, mkHead, mkTail, mkB0, mkV0, List.map_replicate, List.length_replicate, List.length_nil]
   rw [HDI.out, HDO.out]
   rfl
 case rest =>
 obtain ⟨mb, nb, ab, eb, rb, fb, rfl, HMS, HBC⟩ := hcut
 have HDW : Hid (∀ W', Below w4.heap.size w4 W' → DescW d W') := Lh fun W' hW => HD.out W' (HF3.out _ (HK4.out.1 W' hW)).2.2
 have HZW : Hid (∀ W', Below w4.heap.size w4 W' → W'.heap[wa.heap.size]? = some (.cells zeroT 49 (0, 0)) ∧ Below w.heap.size w W') := Lh fun W' hW => ⟨(HF3.out _ (HK4.out.1 W' hW)).1, HBE4.out.trans (hW.mono HBE4.out.size)⟩
 have HSW : Hid (∀ W', Below w4.heap.size w4 W' → W'.cell? ⟨w.heap.size, 3, none⟩ = some (.int .i64 d.s)) := Lh fun W' hW => (HF3.out _ (HK4.out.1 W' hW)).2.1.c6.2.2.2.1
 have hrl : d.rs.length ≤ 4096 := by have := HOK.out.head.2.2.2.2.2.1; rwa [show d.L.rules = d.rs.map RuleI.L from rfl, List.length_map] at this
 have hfl : d.fs.length ≤ 4096 := by have := HOK.out.head.2.2.2.2.2.2; rwa [show d.L.fins = d.fs.map FinI.L from rfl, List.length_map] at this
 have hnN : d.n = (N : Int) := HN.out
 have HRU : Hid (∀ r ∈ d.rs, RuleOk d.L r.L) := Lh fun r hr => HOK.out.rules r.L (List.mem_map.2 ⟨r, hr, rfl⟩)
 have HFU : Hid (∀ r ∈ d.fs, FinOk d.L r.L) := Lh fun r hr => HOK.out.fins r.L (List.mem_map.2 ⟨r, hr, rfl⟩)
 have HRR : Hid (∀ r ∈ d.rs, 0 ≤ r.fr ∧ r.fr < N ∧ r.gs.length ≤ 4) := Lh fun r hr => by
  have h := HRU.out r hr
  have h1 : 0 ≤ r.fr ∧ r.fr < d.n := h.1
  have h2 : (bodies r.gs).length ≤ 4 := h.2.2.1.1
  rw [bodies_len] at h2
  exact ⟨h1.1, by omega, h2⟩
 have HFF : Hid (∀ r ∈ d.fs, 0 ≤ r.fr ∧ r.fr < N ∧ r.gs.length ≤ 4) := Lh fun r hr => by
  have h := HFU.out r hr
  have h1 : 0 ≤ r.fr ∧ r.fr < d.n := h.1
  have h2 : (bodies r.gs).length ≤ 4 := h.2.1.1
  rw [bodies_len] at h2
  exact ⟨h1.1, by omega, h2⟩
 have HCNT : Hid (∀ P, splitL [(0, 255)] (bodies (famI d)) = some P → P.length ≤ 256 ∧ ∀ i : Nat, i < 256 → 0 ≤ classI P i) := Lh fun P h => bytes_count h
 have HNN := Lh hnN
 have hwn := HBC.out.size
 clear q0 q1 q2 q3 q4 q5 hnN hmk1 hmm
 go_wp2_with fail
 refine (classes_mk wc d w4.heap.size mb nb ab eb rb fb N HMS (Lh fun W' hW => HDW.out W' (HBC.out.trans hW)) hrl hfl HRR HFF hN4 hwn HCNT).mono ?_
 rintro e w5 (⟨hno, rfl, HB5⟩ | ⟨P, la, lc, R1, R2, hP, rfl, HM5, HB5, HR1, HR2⟩)
 ·have hz := HZW.out w5 (HBC.out.trans HB5.out)
  have HZ5 := Lh hz.1
  have HBE5 := Lh hz.2
  have HNOS := Lh hno
  clear hz hno
  go_wp2_with (first | (refine wpList_buildZ rfl 49 rfl zeroT built_tab ?_) | (refine wpList_store_row rfl 49 _ _ rfl wa.heap.size zeroT rfl rfl 49 zeroT HZ5.out info_tabS' rfl (cells_one zeroT_C) ?_))
  exact comp_bad hK rfl rfl rfl HZ5.out HBE5.out (by have := HSA.out; omega) (.inr ⟨HYES.out, .inr ⟨HFR.out, .inr ⟨HNC.out, .inl ⟨rfl, HNOS.out, rfl⟩⟩⟩⟩)
 obtain ⟨B, hB⟩ : ∃ z, mkB1 d w4.heap.size mb nb ab eb rb fb la lc P R1 R2 = z := ⟨_, rfl⟩
 have hBd : B.d = d := by rw [← hB]; rfl
 have hBn : B.n = w4.heap.size := by rw [← hB]; rfl
 have hBm : B.mb = mb := by rw [← hB]; rfl
 have hBl : B.ls = P.map leastI := by rw [← hB]; rfl
 have hBc : B.cls = classes P 256 := by rw [← hB]; rfl
 have hBv : B = avB B (fun k => k < B.n) := by rw [← hB]; rfl
 have HMO : Hid (MkOk B) := Lh (by
  rw [← hB]
  refine ⟨HOK.out, ?_, ?_, fun q hq => ?_, fun q hq => ?_, fun r hr t ht => ?_, fun r hr t ht => ?_⟩
  ·show R1.length = d.n.toNat
   have := HR1.out.1; have := HNN.out; omega
  ·show R2.length = d.n.toNat
   have := HR2.out.1; have := HNN.out; omega
  ·have h2 : (q : Int) < d.n := hq
   exact HR1.out.2 q (by have := HNN.out; omega)
  ·have h2 : (q : Int) < d.n := hq
   exact HR2.out.2 q (by have := HNN.out; omega)
  ·have h3 := ((HRU.out r hr).2.2.2.2.2.2 t.L (List.mem_map.2 ⟨t, ht, rfl⟩)).1.2.2.1.2.2.2.2
   have h4 : t.ps.length ≤ 4 := h3
   omega
  ·have h3 := ((HFU.out r hr).2.2.2 t.L (List.mem_map.2 ⟨t, ht, rfl⟩)).1.2.2.1.2.2.2.2
   have h4 : t.ps.length ≤ 4 := h3
   omega)
 have HRO : Hid (∀ r ∈ B.d.rs, r.o.l.length ≤ 1048576) := Lh (by
  rw [hBd]
  intro r hr
  have h3 : (r.o.l.map TermI.L).length ≤ 64 := (HRU.out r hr).2.2.2.2.2.1
  rw [List.length_map] at h3; omega)
 have HFO : Hid (∀ r ∈ B.d.fs, r.o.l.length ≤ 1048576) := Lh (by
  rw [hBd]
  intro r hr
  have h3 : (r.o.l.map TermI.L).length ≤ 64 := (HFU.out r hr).2.2.1
  rw [List.length_map] at h3; omega)
 have HDST : Hid (∀ r ∈ B.d.rs, 0 ≤ r.dst ∧ r.dst < B.d.n) := Lh (by
  rw [hBd]
  intro r hr
  have h1 : 0 ≤ r.dst ∧ r.dst < d.n := (HRU.out r hr).2.1
  exact h1)
 rw [hB, hBv] at HM5
 have hn2 := HMO.out.ok.head.2.2.2.1
 have hn24 : B.d.n ≤ 1024 := hn2
 have hll : B.ls.length ≤ 256 := by rw [hBl, List.length_map]; exact (HCNT.out P hP).1
 have HU8 : Hid (U8s B.cls) := Lh (by
  rw [hBc]
  intro x hx
  obtain ⟨i, hi, rfl⟩ := List.mem_map.1 hx
  have h1 := classI_bd P (i : Int)
  have h2 := (HCNT.out P hP)
  have h3 := h2.2 i (List.mem_range.1 hi)
  have h4 := h2.1
  omega)
 have hss : 0 ≤ d.s ∧ d.s < B.d.n := by rw [hBd]; have h1 : 0 ≤ d.s ∧ d.s < d.n := HOK.out.head.2.2.2.2.1; exact h1
 have HBD := Lh hBd
 have HBN := Lh hBn
 have HBL := Lh hBl
 have HBCL := Lh hBc
 have HP := Lh hP
 have hrlB : B.d.rs.length ≤ 4096 := by rw [hBd]; exact hrl
 have hflB : B.d.fs.length ≤ 4096 := by rw [hBd]; exact hfl
 have HDB : Hid (∀ W W', Below w4.heap.size w4 W → Below B.n W W' → DescW B.d W') := Lh fun W W' h1 h2 => by rw [hBd]; exact HDW.out W' (h1.trans (by rw [← hBn]; exact h2))
 have HB5' : Hid (Below w4.heap.size w4 w5) := Lh (HBC.out.trans HB5.out)
 clear hB hBd hBn hBl hBc hBv hP hrl hfl HRR HFF HB5 HMS HR1 HR2 hn2 HRU HFU
 subst hBm
 have hs5 := HSW.out w5 HB5'.out
 go_wp2_with fail
 have hps0 : PlaceOk (d.s, []) := ⟨by unfold I64; omega, by simp, fun c hc => by cases hc⟩
 refine (node_mk w5 (avB B fun k => k < B.n) mkV0 (Lh HM5.out) (d.s, []) hps0 d.s 0 0 0 0 0 (Lh rfl) (by decide)).mono ?_
 rintro e w6 ⟨pa, pc, rfl, HM6, HF6⟩
 obtain ⟨S0, hS0⟩ : ∃ z, (⟨[(d.s, [])], [], []⟩ : LayS) = z := ⟨_, rfl⟩
 obtain ⟨V1, hV1⟩ : ∃ z, withP mkV0 pa pc (putL mkV0.ps (d.s, [])) = z := ⟨_, rfl⟩
 have HL1 : Hid (Lays B V1 S0) := Lh (by rw [← hV1, ← hS0]; exact ⟨rfl, rfl, rfl, fun x hx => (by cases hx), fun x hx => (by cases hx)⟩)
 have HO1 : Hid (LayOk B S0) := Lh (by rw [← hS0]; exact ⟨fun p hp => by rw [List.mem_singleton] at hp; subst hp; exact ⟨hss, by simp [ClsOk]⟩, by simp⟩)
 have HNS1 : Hid (V1.ns = []) := Lh (by rw [← hV1]; rfl)
 rw [hV1] at HM6 HF6
 have HB6 : Hid (Below w4.heap.size w4 w6) := Lh (HB5'.out.trans (by have h : Below B.n w5 w6 := HF6.out.bel; rwa [HBN.out] at h))
 have HS0 := Lh hS0
 have HPS0 := Lh hps0
 clear hs5 hps0 hS0 hV1 HF6
 go_wp2_with fail
 go_loopw [8] (fun kv wr => ∃ (k : Nat) (V : MkV) (S : LayS), k ≤ 4096 ∧ kv = .int .i64 k ∧ Hid (Mk (avB B fun k => k < B.n) V wr) ∧ Hid (Lays B V S) ∧ Hid (LayOk B S) ∧ Hid (V.ns.length = k ∧ layF B 4098 0 S0 [] = layF B (4098 - k) k S (V.ns.map NodeI.L)) ∧ Hid (Below w4.heap.size w4 wr)) (fun kv _ => 5000 - (intOf kv).toNat)
 case atStart => exact ⟨0, V1, S0, by omega, rfl, HM6, HL1, HO1, Lh ⟨by rw [HNS1.out]; rfl, by rw [HNS1.out]; rfl⟩, HB6⟩
 case round =>
 clear HM6 HL1 HO1 HNS1 HB6
 obtain ⟨k, V, S, hk, rfl, HM, HL, HLO, HNS, HBR⟩ := hrel
 have hm9 := HM.out.clo (i := 9) (by decide) rfl
 by_cases hlt : k < V.ps.length
 case neg =>
  have hkp : V.ps.length ≤ k := by omega
  have HLV : Hid (Lays (avB B fun k => k < B.n) V S) := Lh ⟨HL.out.ps, HL.out.acts, HL.out.ends, HL.out.aok, HL.out.eok⟩
  have hcn := HM.out.counts HLV.out
  have hac : V.acs.length ≤ 4096 := Nat.le_trans hcn.1 hrlB
  have hec : V.es.length ≤ 4096 := Nat.le_trans hcn.2 hflB
  have hnc : V.ns.length ≤ 1048576 := by have := HNS.out.1; omega
  obtain ⟨cs, hcs⟩ : ∃ z, tabV B V = z := ⟨_, rfl⟩
  have HTC : Hid (TabC cs (tabI B V)) := Lh (by rw [← hcs]; exact tabV_C HM.out.cl HU8.out)
  have HLD : Hid ((Instr.loadAt 49 (.pointer (some ⟨B.mb, 13, none⟩))).run Tryz.prog wr = .ok (.agg cs) wr) := Lh (by rw [← hcs]; exact tabV_load (B := avB B fun k => k < B.n) HM.out)
  have HCS : Hid ((Tryz.prog.info? 49).map (·.size) = some cs.size) := Lh (by rw [HTC.out.size]; exact info_tabS)
  have HCZ : Hid (zeroT.size = cs.size) := Lh (by rw [HTC.out.size]; exact zeroT_size)
  have HC1 := Lh (cells_one HTC.out)
  have hz := HZW.out wr HBR.out
  have HZr := Lh hz.1
  have HBEr := Lh hz.2
  have htn : wa.heap.size < B.n := by have h1 := (HZW.out w4 (Below.refl _ _)).1; have := (Array.getElem?_eq_some_iff.1 h1).1; rw [HBN.out]; exact this
  have HTW : Hid (TabW (tabI B V) (wr.setRow wa.heap.size cs)) := Lh (by
   have h2 : Mk (avB B fun k => k < B.n) V (wr.setRow wa.heap.size cs) := HM.out.swap (by simp [World.setRow]) (fun k hk hn => setRow_other _ _ _ _ (fun e => hn (by subst e; exact htn))) (fun k hk hm => by have := (HM.out.mut_lt hm).1; have h3 : B.n ≤ k := this; omega) (fun k hk => ⟨by have := HM.out.nle; have h3 : B.n ≤ wr.heap.size := this; simp [World.setRow]; omega, .inl hk⟩)
   exact tabI_W (B := avB B fun k => k < B.n) h2 hnc (by omega) (by omega))
  have HTD : Hid (Dep (fun k => w.heap.size ≤ k) (wr.setRow wa.heap.size cs) (fun W => TabW (tabI B V) W ∧ TabF (tabI B V) W)) := Lh (by
   have h2 : Mk (avB B fun k => k < B.n) V (wr.setRow wa.heap.size cs) := HM.out.swap (by simp [World.setRow]) (fun k hk hn => setRow_other _ _ _ _ (fun e => hn (by subst e; exact htn))) (fun k hk hm => by have := (HM.out.mut_lt hm).1; have h3 : B.n ≤ k := this; omega) (fun k hk => ⟨by have := HM.out.nle; have h3 : B.n ≤ wr.heap.size := this; simp [World.setRow]; omega, .inl hk⟩)
   exact (tabI_dep h2 hnc (by omega) (by omega)).mono fun k hk _ => by have h4 : B.n ≤ k := hk; have := HSA.out; omega)
  have HSD : Hid (CompSaid d (tabI B V).L 0) := Lh (.inr ⟨HYES.out, .inr ⟨HFR.out, .inr ⟨HNC.out, .inr ⟨P, HP.out, .inr ⟨rfl, (S, V.ns.map NodeI.L), by
   rw [← HBD.out, ← HBL.out, ← layL_eq, HBD.out, HS0.out, HNS.out.2]
   exact layF_stop (by rw [← HL.out.ps]; omega) (by rw [← HL.out.ps]; exact hkp), by rw [tabI_L HL.out, HBD.out, HBCL.out]⟩⟩⟩⟩⟩)
  have hd : decide ((k : Int) < (V.ps.length : Int)) = false := decide_eq_false (by omega)
  have hd2 : decide (k < V.ps.length) = false := decide_eq_false hlt
  clear hz hcs hcn hlt
  go_wp2_with (first | (refine wpList_load_of rfl 49 _ rfl (.pointer (some ⟨B.mb, 13, none⟩)) rfl (.agg cs) HLD.out ?_) | (refine wpList_store_row rfl 49 _ _ rfl wa.heap.size cs rfl rfl 49 zeroT HZr.out HCS.out HCZ.out HC1.out ?_))
  exact comp_end hK rfl rfl rfl HZr.out HBEr.out (by have := HSA.out; omega) HTC.out HTW.out HSD.out HTD.out
 by_cases hbig : 4096 < V.ps.length
 case pos =>
  have hz := HZW.out wr HBR.out
  have HZr := Lh hz.1
  have HBEr := Lh hz.2
  have HNO : Hid (layL d.L (P.map leastI) 4098 0 ⟨[(d.s, [])], [], []⟩ [] = none) := Lh (by
   rw [← HBD.out, ← HBL.out, ← layL_eq, HBD.out, HS0.out, HNS.out.2]
   obtain ⟨f, hf⟩ : ∃ f, 4098 - k = f + 1 := ⟨4097 - k, by omega⟩
   rw [hf, layF, if_pos (by rw [← HL.out.ps]; exact hbig)])
  have hbi : (4096 : Int) < (V.ps.length : Int) := by omega
  have hli : (k : Int) < (V.ps.length : Int) := by omega
  clear hz
  go_wp2_with (first | (refine wpList_buildZ rfl 49 rfl zeroT built_tab ?_) | (refine wpList_store_row rfl 49 _ _ rfl wa.heap.size zeroT rfl rfl 49 zeroT HZr.out info_tabS' rfl (cells_one zeroT_C) ?_))
  exact comp_bad hK rfl rfl rfl HZr.out HBEr.out (by have := HSA.out; omega) (.inr ⟨HYES.out, .inr ⟨HFR.out, .inr ⟨HNC.out, .inr ⟨P, HP.out, .inl ⟨rfl, HNO.out, rfl⟩⟩⟩⟩⟩)
 have hsml : V.ps.length ≤ 4096 := by omega
 obtain ⟨pb0, poff, ⟨pq, wd⟩, hpa, hpk, hp6, -⟩ := RowsAt.at_ (R := fun _ _ => True) (f := placeC) (size := 6) (W := wr) (A := V.pa) (L := V.ps) ⟨Sl.of_own HM.out.pl, fun _ _ => trivial, by omega⟩ (fun _ => rfl) hlt
 have hpm := List.mem_of_getElem? hpk
 obtain ⟨⟨hq0, hqn⟩, hcl⟩ := HLO.out.ps (pq, wd) (by rw [← HL.out.ps]; exact hpm)
 obtain ⟨q, hqe⟩ := Int.eq_ofNat_of_zero_le hq0
 simp only at hqe hqn hcl hq0
 subst hqe
 obtain ⟨c0, hc0⟩ : ∃ z, wd.getD 0 0 = z := ⟨_, rfl⟩
 obtain ⟨c1, hc1⟩ : ∃ z, wd.getD 1 0 = z := ⟨_, rfl⟩
 obtain ⟨c2, hc2⟩ : ∃ z, wd.getD 2 0 = z := ⟨_, rfl⟩
 obtain ⟨c3, hc3⟩ : ∃ z, wd.getD 3 0 = z := ⟨_, rfl⟩
 have hpc : placeC ((q : Int), wd) = [.int .i64 (q : Int), .int .i64 (wd.length : Int), .int .i64 c0, .int .i64 c1, .int .i64 c2, .int .i64 c3] := by unfold placeC; rw [hc0, hc1, hc2, hc3]
 rw [hpc] at hp6
 have e0 : wr.cell? ⟨pb0, poff + k * 6, none⟩ = some (.int .i64 (q : Int)) := hp6 0 _ rfl
 have e1 : wr.cell? ⟨pb0, poff + k * 6 + 1, none⟩ = some (.int .i64 (wd.length : Int)) := hp6 1 _ rfl
 have e2 : wr.cell? ⟨pb0, poff + k * 6 + 2, none⟩ = some (.int .i64 c0) := hp6 2 _ rfl
 have e3 : wr.cell? ⟨pb0, poff + k * 6 + 3, none⟩ = some (.int .i64 c1) := hp6 3 _ rfl
 have e4 : wr.cell? ⟨pb0, poff + k * 6 + 4, none⟩ = some (.int .i64 c2) := hp6 4 _ rfl
 have e5 : wr.cell? ⟨pb0, poff + k * 6 + 5, none⟩ = some (.int .i64 c3) := hp6 5 _ rfl
 rw [hpa] at hm9
 have HPC := Lh hpc
 have HCL := Lh hcl
 have HPK := Lh hpk
 have HLT := Lh hlt
 have HSML := Lh hsml
 have HQN := Lh hqn
 have hli : (k : Int) < (V.ps.length : Int) := by omega
 have hk0 : (0 : Int) ≤ (k : Int) := by omega
 have hbi : ¬ (4096 : Int) < (V.ps.length : Int) := by omega
 have hbd : decide ((4096 : Int) < (V.ps.length : Int)) = false := decide_eq_false hbi
 have hbd2 : decide (4096 < V.ps.length) = false := decide_eq_false hbig
 obtain ⟨w1, hw1⟩ : ∃ z, wr.alloc (.cells #[.int .i64 (q : Int), .int .i64 (wd.length : Int), .int .i64 c0, .int .i64 c1, .int .i64 c2, .int .i64 c3] 150) = z := ⟨_, rfl⟩
 have hb1 : Below wr.heap.size wr w1 := by rw [← hw1]; exact (Below.refl _ _).alloc (Nat.le_refl _) _
 have hs1 : w1.heap.size = wr.heap.size + 1 := by rw [← hw1]; simp
 have hx1 : w1.heap[wr.heap.size]? = some (.cells #[.int .i64 (q : Int), .int .i64 (wd.length : Int), .int .i64 c0, .int .i64 c1, .int .i64 c2, .int .i64 c3] 150 (0, 0)) := by rw [← hw1]; exact heap_alloc_new wr _
 have HB1 := Lh hb1
 have HS1 := Lh hs1
 have HX1 := Lh hx1
 clear hpa hpk hp6 hpm hcl hc0 hc1 hc2 hc3 hpc hb1 hs1 hx1 hsml hbig hlt hq0 hqn
 go_wp2_with fail
 (try rw [hw1])
 have HXP : Hid (∀ W' : World, W'.heap[wr.heap.size]? = w1.heap[wr.heap.size]? → W'.cell? ⟨wr.heap.size, 0, none⟩ = some (.int .i64 (q : Int)) ∧ W'.cell? ⟨wr.heap.size, 1, none⟩ = some (.int .i64 (wd.length : Int)) ∧ W'.cell? ⟨wr.heap.size, 2, none⟩ = some (.int .i64 c0) ∧ W'.cell? ⟨wr.heap.size, 3, none⟩ = some (.int .i64 c1) ∧ W'.cell? ⟨wr.heap.size, 4, none⟩ = some (.int .i64 c2) ∧ W'.cell? ⟨wr.heap.size, 5, none⟩ = some (.int .i64 c3)) := Lh fun W' h => place6 (h.trans HX1.out)
 have HM1 : Hid (Mk (avB B fun k => k < B.n) V w1) := Lh (HM.out.below HB1.out)
 have hnr : B.n ≤ wr.heap.size := HM.out.nle
 have HNR := Lh hnr
 have HBE1 : Hid (Below w4.heap.size w4 w1) := Lh (HBR.out.trans (HB1.out.mono HBR.out.size))
 have HLV : Hid (Lays (avB B fun k => k < B.n) V S) := Lh ⟨HL.out.ps, HL.out.acts, HL.out.ends, HL.out.aok, HL.out.eok⟩
 have hcn := HM.out.counts HLV.out
 have hec : V.es.length ≤ 1048576 := Nat.le_trans hcn.2 (Nat.le_trans hflB (by omega))
 have hflC : B.d.fs.length ≤ 1048576 := by omega
 have HFP : Hid (¬ Mut B V wr.heap.size) := Lh (HM.out.free (Nat.le_refl _))
 clear hcn hnr hm9
 go_cut [10] (fun v wq => ∃ (xb : Nat) (V2 : MkV), v = .pointer (some ⟨xb, 0, none⟩) ∧ Hid (Mk (avB B fun k => k < B.n ∨ k = xb) V2 wq) ∧ Hid (Lays B V2 (putE B S ((q : Int), wd))) ∧ V2.ns = V.ns ∧ Hid (wq.heap[xb]? = some (.cells #[.int .i64 (wd.length : Int), .slice none 0 0, .int .i64 (endI B S ((q : Int), wd))] 64 (0, 0))) ∧ Hid (B.n ≤ xb ∧ ¬ Mut B V2 xb ∧ ¬ Mut B V2 wr.heap.size ∧ xb ≠ wr.heap.size) ∧ Hid (wq.heap[wr.heap.size]? = some (.cells #[.int .i64 (q : Int), .int .i64 (wd.length : Int), .int .i64 c0, .int .i64 c1, .int .i64 c2, .int .i64 c3] 150 (0, 0))) ∧ Hid (Below w4.heap.size w4 wq))
 case first =>
  obtain ⟨w2, hw2⟩ : ∃ z, w1.drew = z := ⟨_, rfl⟩
  have hb2 : Below w1.heap.size w1 w2 := by rw [← hw2]; exact (Below.refl _ _).drew
  have hh2 : w2.heap = w1.heap := by rw [← hw2]; rfl
  have HM2 : Hid (Mk (avB B fun k => k < B.n) V w2) := Lh (HM1.out.below hb2)
  have HB2 : Hid (Below w4.heap.size w4 w2) := Lh (HBE1.out.trans (hb2.mono HBE1.out.size))
  have HX2 : Hid (w2.heap[wr.heap.size]? = w1.heap[wr.heap.size]?) := Lh (by rw [hh2])
  have HS2 : Hid (w2.heap.size = wr.heap.size + 1) := Lh (by rw [hh2, HS1.out])
  have h2 := HXP.out w2 HX2.out
  clear hb2 hh2
  refine wp_region_Z 8 (by kernel_rfl) (fun W' => W'.cell? ⟨wr.heap.size, 0, none⟩ = some (.int .i64 (q : Int)) ∧ W'.cell? ⟨wr.heap.size, 1, none⟩ = some (.int .i64 (wd.length : Int)) ∧ W'.cell? ⟨wr.heap.size, 2, none⟩ = some (.int .i64 c0) ∧ W'.cell? ⟨wr.heap.size, 3, none⟩ = some (.int .i64 c1) ∧ W'.cell? ⟨wr.heap.size, 4, none⟩ = some (.int .i64 c2) ∧ W'.cell? ⟨wr.heap.size, 5, none⟩ = some (.int .i64 c3)) (by rw [hw2]; exact h2) (fun hHeld => ?_)
  refine zt (v := ?_) 0 rfl ?_ ?_
  rotate_left
  ·intro w hSw; (try dsimp only at hSw); go_simp; (try with_reducible rfl)
  (try simp only [Act.put, zq1, zq2, zq3, zq4, zq5, zq6])
  refine zt (v := ?_) 1 rfl ?_ ?_
  rotate_left
  ·intro w hSw; (try dsimp only at hSw); go_simp; (try with_reducible rfl)
  (try simp only [Act.put, zq1, zq2, zq3, zq4, zq5, zq6])
  refine zt (v := ?_) 2 rfl ?_ ?_
  rotate_left
  ·intro w hSw; (try dsimp only at hSw); go_simp; (try with_reducible rfl)
  (try simp only [Act.put, zq1, zq2, zq3, zq4, zq5, zq6])
  refine zt (v := ?_) 3 rfl ?_ ?_
  rotate_left
  ·intro w hSw; (try dsimp only at hSw); go_simp; (try with_reducible rfl)
  (try simp only [Act.put, zq1, zq2, zq3, zq4, zq5, zq6])
  refine zt (v := ?_) 4 rfl ?_ ?_
  rotate_left
  ·intro w hSw; (try dsimp only at hSw); go_simp; (try with_reducible rfl)
  (try simp only [Act.put, zq1, zq2, zq3, zq4, zq5, zq6])
  rw [hw2]
  refine wpAnyZ_ready2 (i := 5) (j := 7) (by kernel_rfl) rfl rfl (fun K hK => ?_) (fun K hK => ?_)
  ·go_simp
   refine (end_av w2 B (fun k => k < B.n) V S HM2 HL (Lh fun W' hW => HDB.out w2 W' HB2.out hW) HMO q wd HQN.out HCL wd.length c0 c1 c2 c3 HPC hec hflC HFO).mono ?_
   rintro e w3 ⟨V2, rfl, HM3, HF3, HL3, hns3⟩
   have hF3b : Below B.n w2 w3 := HF3.out.bel
   have hx3 : w3.heap[wr.heap.size]? = w1.heap[wr.heap.size]? := (HF3.out.blk _ (by have := HS2.out; omega) HFP.out).trans HX2.out
   have h3 := HXP.out w3 hx3
   have HX3 := Lh hx3
   have HB3 := Lh hF3b
   clear hx3 hF3b
   refine hK.out _ _ (h3) (fun hHeld => ?_)
   clear hK K
   (try simp only [Act.put, zq1, zq2, zq3, zq4, zq5, zq6])
   refine zt (v := ?_) 6 rfl ?_ ?_
   rotate_left
   ·intro w hSw; (try dsimp only at hSw); go_simp; (try with_reducible rfl)
   (try simp only [Act.put, zq1, zq2, zq3, zq4, zq5, zq6])
   refine zr 7 rfl fun K hK => ?_
   go_simp
   have hlx : wr.heap.size < w3.heap.size := by have := (Array.getElem?_eq_some_iff.1 (HX3.out.trans HX1.out)).1; exact this
   obtain ⟨w5', hw5'⟩ : ∃ z, w3.alloc (.cells #[.int .i64 0, .slice none 0 0, .int .i64 0] 64) = z := ⟨_, rfl⟩
   rw [hw5']
   have hx5 : w5'.heap[wr.heap.size]? = w1.heap[wr.heap.size]? := by rw [← hw5', Below.heap_alloc _ _ _ hlx]; exact HX3.out
   have hn5 : w5'.heap[w3.heap.size]? = some (.cells #[.int .i64 0, .slice none 0 0, .int .i64 0] 64 (0, 0)) := by rw [← hw5']; exact heap_alloc_new w3 _
   have h5 := HXP.out w5' hx5
   have HX5 := Lh hx5
   have HN5 := Lh hn5
   have HW5 := Lh hw5'
   clear hx5 hn5 hw5'
   refine hK.out _ _ (h5) (fun hHeld => ?_)
   clear hK K
   (try simp only [Act.put, zq1, zq2, zq3, zq4, zq5, zq6])
   refine wpAnyZ_last (i := 8) rfl (by kernel_rfl) (by kernel_rfl) rfl (fun K hK => ?_)
   rw [if_pos (by rfl)]
   refine wp_store_row 64 (.tmp 10) (.tmp 92) rfl w3.heap.size #[.int .i64 (wd.length : Int), .slice none 0 0, .int .i64 (endI B S ((q : Int), wd))] rfl rfl 64 _ HN5.out infoNodeS rfl (by simp [Value.oneCell']) ?_
   refine hK.out _ _ ?_
   obtain ⟨w6', hw6'⟩ : ∃ z, w5'.setRow w3.heap.size #[.int .i64 (wd.length : Int), .slice none 0 0, .int .i64 (endI B S ((q : Int), wd))] = z := ⟨_, rfl⟩
   rw [hw6']
   have HFIN : Hid (∃ (xb : Nat) (V2 : MkV), w3.heap.size = xb ∧ Hid (Mk (avB B fun k => k < B.n ∨ k = xb) V2 w6') ∧ Hid (Lays B V2 (putE B S ((q : Int), wd))) ∧ V2.ns = V.ns ∧ Hid (w6'.heap[xb]? = some (.cells #[.int .i64 (wd.length : Int), .slice none 0 0, .int .i64 (endI B S ((q : Int), wd))] 64 (0, 0))) ∧ Hid (B.n ≤ xb ∧ ¬ Mut B V2 xb ∧ ¬ Mut B V2 wr.heap.size ∧ xb ≠ wr.heap.size) ∧ Hid (w6'.heap[wr.heap.size]? = some (.cells #[.int .i64 (q : Int), .int .i64 (wd.length : Int), .int .i64 c0, .int .i64 c1, .int .i64 c2, .int .i64 c3] 150 (0, 0))) ∧ Hid (Below w4.heap.size w4 w6')) := Lh (by
    have hn3 : B.n ≤ w3.heap.size := HM3.out.nle
    have hb6 : Below w3.heap.size w3 w6' := by
     rw [← hw6', ← HW5.out]
     exact below_setRow ((Below.refl _ _).alloc (Nat.le_refl _) _) (Nat.le_refl _) _
    have hne : w3.heap.size ≠ wr.heap.size := by omega
    refine ⟨w3.heap.size, V2, rfl, Lh (HM3.out.swap hb6.size (fun k hk _ => hb6.block k hk) (fun k hk hm => by have h4 := (HM3.out.mut_lt hm).1; have h5 : B.n ≤ k := h4; omega) (fun k hk => by
     have hs6 : w6'.heap.size = w3.heap.size + 1 := by rw [← hw6', ← HW5.out]; simp [World.setRow]
     rcases hk with hk | hk
     ·exact ⟨by omega, .inl hk⟩
     ·exact ⟨by omega, .inr (by omega)⟩)), Lh HL3.out.av, hns3, Lh ?_, Lh ⟨hn3, HM3.out.free (Nat.le_refl _), fun hm => HFP.out (HF3.out.sub _ (by have := HS2.out; omega) hm), hne⟩, Lh ?_, Lh ?_⟩
    ·rw [← hw6']; exact setRow_heap _ _ _ _ _ _ HN5.out
    ·rw [← hw6', setRow_other _ _ _ _ (fun e => hne e.symm), HX5.out]; exact HX1.out
    ·have h7 : Below w4.heap.size w4 w3 := HB2.out.trans (by have h := HB3.out; rwa [HBN.out] at h)
     exact h7.trans (hb6.mono (by rw [← HBN.out]; exact hn3)))
   clear hw6' hlx hw2 hHeld hK K
   (try simp only [Act.put, zq1, zq2, zq3, zq4, zq5, zq6])
   go_wp2_with fail
   go_meet
   obtain ⟨xb, V3, e1, h1, h2, h3, h4, h5, h6, h7⟩ := HFIN.out
   exact ⟨xb, V3, by rw [e1], h1, h2, h3, h4, h5, h6, h7⟩
  ·go_simp
   obtain ⟨w3, hw3⟩ : ∃ z, w2.alloc (.cells #[.int .i64 0, .slice none 0 0, .int .i64 0] 64) = z := ⟨_, rfl⟩
   obtain ⟨xb, hxb⟩ : ∃ z, w2.heap.size = z := ⟨_, rfl⟩
   rw [hw3]
   have hb3 : Below w2.heap.size w2 w3 := by rw [← hw3]; exact (Below.refl _ _).alloc (Nat.le_refl _) _
   have hs3 : w3.heap.size = w2.heap.size + 1 := by rw [← hw3]; simp
   have hn3 : w3.heap[xb]? = some (.cells #[.int .i64 0, .slice none 0 0, .int .i64 0] 64 (0, 0)) := by rw [← hw3, ← hxb]; exact heap_alloc_new w2 _
   have hx3 : w3.heap[wr.heap.size]? = w1.heap[wr.heap.size]? := (hb3.block _ (by have := HS2.out; omega)).trans HX2.out
   have h3 := HXP.out w3 hx3
   have HM3 : Hid (Mk (avB B fun k => k < B.n ∨ k = xb) V w3) := Lh (HM2.out.swap (by omega) (fun k hk _ => hb3.block k hk) (fun k hk hm => by have h4 := (HM2.out.mut_lt hm).1; have h5 : B.n ≤ k := h4; omega) (fun k hk => by
    have h4 : B.n ≤ w2.heap.size := HM2.out.nle
    rcases hk with hk | hk
    ·exact ⟨by omega, .inl hk⟩
    ·exact ⟨by omega, .inr (by omega)⟩))
   have HB3 : Hid (Below w4.heap.size w4 w3) := Lh (HB2.out.trans (hb3.mono HB2.out.size))
   have HX3 := Lh hx3
   have HN3 := Lh hn3
   have HS3 : Hid (w3.heap.size = xb + 1 ∧ xb = wr.heap.size + 1) := Lh ⟨by omega, by rw [← hxb]; exact HS2.out⟩
   have HFX : Hid (¬ Mut B V xb) := Lh (HM2.out.free (by omega))
   rw [hxb]
   clear hx3 hn3 hb3 hs3 hw3
   refine hK.out _ _ (h3) (fun hHeld => ?_)
   clear hK K
   (try simp only [Act.put, zq1, zq2, zq3, zq4, zq5, zq6])
   refine zr 5 rfl fun K hK => ?_
   go_simp
   refine (end_av w3 B (fun k => k < B.n ∨ k = xb) V S HM3 HL (Lh fun W' hW => HDB.out w3 W' HB3.out hW) HMO q wd HQN.out HCL wd.length c0 c1 c2 c3 HPC hec hflC HFO).mono ?_
   rintro e w5' ⟨V2, rfl, HM5', HF5, HL5, hns5⟩
   have hx5 : w5'.heap[wr.heap.size]? = w1.heap[wr.heap.size]? := (HF5.out.blk _ (by have := HS3.out; omega) HFP.out).trans HX3.out
   have hn5 : w5'.heap[xb]? = some (.cells #[.int .i64 0, .slice none 0 0, .int .i64 0] 64 (0, 0)) := (HF5.out.blk _ (by have := HS3.out; omega) HFX.out).trans HN3.out
   have h5 := HXP.out w5' hx5
   have HX5 := Lh hx5
   have HN5 := Lh hn5
   clear hx5 hn5
   refine hK.out _ _ (h5) (fun hHeld => ?_)
   clear hK K
   (try simp only [Act.put, zq1, zq2, zq3, zq4, zq5, zq6])
   refine zt (v := ?_) 6 rfl ?_ ?_
   rotate_left
   ·intro w hSw; (try dsimp only at hSw); go_simp; (try with_reducible rfl)
   (try simp only [Act.put, zq1, zq2, zq3, zq4, zq5, zq6])
   refine wpAnyZ_last (i := 8) rfl (by kernel_rfl) (by kernel_rfl) rfl (fun K hK => ?_)
   rw [if_pos (by rfl)]
   refine wp_store_row 64 (.tmp 10) (.tmp 92) rfl xb #[.int .i64 (wd.length : Int), .slice none 0 0, .int .i64 (endI B S ((q : Int), wd))] rfl rfl 64 _ HN5.out infoNodeS rfl (by simp [Value.oneCell']) ?_
   refine hK.out _ _ ?_
   obtain ⟨w6', hw6'⟩ : ∃ z, w5'.setRow xb #[.int .i64 (wd.length : Int), .slice none 0 0, .int .i64 (endI B S ((q : Int), wd))] = z := ⟨_, rfl⟩
   rw [hw6']
   have HFIN : Hid (∃ (V2 : MkV), Hid (Mk (avB B fun k => k < B.n ∨ k = xb) V2 w6') ∧ Hid (Lays B V2 (putE B S ((q : Int), wd))) ∧ V2.ns = V.ns ∧ Hid (w6'.heap[xb]? = some (.cells #[.int .i64 (wd.length : Int), .slice none 0 0, .int .i64 (endI B S ((q : Int), wd))] 64 (0, 0))) ∧ Hid (B.n ≤ xb ∧ ¬ Mut B V2 xb ∧ ¬ Mut B V2 wr.heap.size ∧ xb ≠ wr.heap.size) ∧ Hid (w6'.heap[wr.heap.size]? = some (.cells #[.int .i64 (q : Int), .int .i64 (wd.length : Int), .int .i64 c0, .int .i64 c1, .int .i64 c2, .int .i64 c3] 150 (0, 0))) ∧ Hid (Below w4.heap.size w4 w6')) := Lh (by
    have hs3 := HS3.out
    have hnx : B.n ≤ xb := by have := HNR.out; omega
    have hfx : ¬ Mut B V2 xb := fun hm => HFX.out (HF5.out.sub _ (by omega) hm)
    have hst : ∀ k, k ≠ xb → w6'.heap[k]? = w5'.heap[k]? := fun k hk => by rw [← hw6']; exact setRow_other _ _ _ _ hk
    have hsz : w6'.heap.size = w5'.heap.size := by rw [← hw6']; simp [World.setRow]
    refine ⟨V2, Lh ?_, Lh HL5.out.av, hns5, Lh ?_, Lh ⟨hnx, hfx, fun hm => HFP.out (HF5.out.sub _ (by omega) hm), by omega⟩, Lh ?_, Lh ?_⟩
    ·refine HM5'.out.swap (by omega) (fun k hk hn => hst k (fun e => hn (.inr e))) (fun k hk hm => ?_) (fun k hk => ⟨?_, .inl hk⟩)
     ·rcases hk with hk | hk
      ·have h4 := (HM5'.out.mut_lt hm).1
       have h5 : B.n ≤ k := h4
       omega
      ·subst hk; exact hfx hm
     ·have h4 : B.n ≤ w5'.heap.size := HM5'.out.nle
      have h5 := (Array.getElem?_eq_some_iff.1 HN5.out).1
      rcases hk with hk | hk <;> omega
    ·rw [← hw6']; exact setRow_heap _ _ _ _ _ _ HN5.out
    ·rw [hst _ (by omega), HX5.out]; exact HX1.out
    ·have h7 : Below w4.heap.size w4 w5' := HB3.out.trans (by have h : Below B.n w3 w5' := HF5.out.bel; rwa [HBN.out] at h)
     rw [← hw6']
     exact below_setRow h7 (by rw [← HBN.out]; exact hnx) _)
   clear hw6' hw2 hHeld hK K
   (try simp only [Act.put, zq1, zq2, zq3, zq4, zq5, zq6])
   go_wp2_with fail
   go_meet
   exact ⟨xb, HFIN.out.choose, rfl, HFIN.out.choose_spec⟩
 case rest =>
 obtain ⟨xb, V2, rfl, HM2, HL2, hns2, HX2, HNX, HP2, HB2⟩ := hcut
 obtain ⟨wo, hwo⟩ : ∃ z, z = wr := ⟨_, rfl⟩
 subst hwo
 obtain ⟨S2, hS2⟩ : ∃ z, putE B S ((q : Int), wd) = z := ⟨_, rfl⟩
 obtain ⟨en, hen⟩ : ∃ z, endI B S ((q : Int), wd) = z := ⟨_, rfl⟩
 rw [hS2] at HL2
 rw [hen] at HX2
 have HO2 : Hid (LayOk B S2) := Lh (by rw [← hS2]; exact HLO.out.putE _)
 have HP4 : Hid (S2.ps.length ≤ 4096) := Lh (by rw [← hS2, (putE_le B S ((q : Int), wd)).1, ← HL.out.ps]; exact HSML.out)
 have HES := Lh hS2
 have HEN := Lh hen
 have hm6 := HM2.out.clo (i := 6) (by decide) rfl
 have HNS2 := Lh hns2
 have HNM : Hid (B.n ≤ wc.heap.size ∧ xb < wc.heap.size) := Lh ⟨HM2.out.nle, (Array.getElem?_eq_some_iff.1 HX2.out).1⟩
 clear hS2 hen hns2
 go_wp2_with fail
 clear hm6
 go_loopw [98] (fun iv wr => ∃ (c : Nat) (V3 : MkV) (A : Option Addr) (cp : Nat) (nx : List Int), c ≤ B.ls.length ∧ iv = .int .i64 c ∧ Hid (nx = (nxtS B S2 q wd c).2) ∧ Hid (Mk (avB B fun k => k < B.n ∨ k = xb ∨ ownA A = some k) V3 wr) ∧ Hid (Lays B V3 (nxtS B S2 q wd c).1) ∧ Hid (V3.ns = V.ns) ∧ Hid (wr.heap[xb]? = some (.cells #[.int .i64 (wd.length : Int), .slice A nx.length cp, .int .i64 en] 64 (0, 0))) ∧ Hid (wr.ownsRow wc.heap.size 3 1 (.slice A nx.length cp) nx.length (nx.map (Value.int .i64))) ∧ Hid (wr.heap[wo.heap.size]? = some (.cells #[.int .i64 (q : Int), .int .i64 (wd.length : Int), .int .i64 c0, .int .i64 c1, .int .i64 c2, .int .i64 c3] 150 (0, 0))) ∧ Hid (¬ Mut B V3 xb ∧ ¬ Mut B V3 wo.heap.size ∧ wc.heap.size ≤ wr.heap.size) ∧ Hid (∀ v ∈ nx, I64 v) ∧ Hid (Below w4.heap.size w4 wr)) (fun iv _ => B.ls.length - (intOf iv).toNat)
 case atStart => exact ⟨0, V2, none, 0, [], Nat.zero_le _, rfl, Lh rfl, Lh (HM2.out.swap (Nat.le_refl _) (fun _ _ _ => rfl) (fun k hk hm => by
   rcases hk with hk | hk
   ·have h4 := (HM2.out.mut_lt hm).1
    have h5 : B.n ≤ k := h4
    omega
   ·subst hk; exact HNX.out.2.1 hm) (fun k hk => by
   rcases hk with hk | hk | hk
   ·exact ⟨by have := HNM.out.1; omega, .inl (.inl hk)⟩
   ·exact ⟨by have := HNM.out.2; omega, .inl (.inr hk)⟩
   ·cases hk)), HL2, HNS2, HX2, Lh (World.ownsRow_nil _ _ _ _), HP2, Lh ⟨HNX.out.2.1, HNX.out.2.2.1, Nat.le_refl _⟩, Lh (fun v hv => by cases hv), HB2⟩
 case round =>
 clear HM2 HL2 HX2 HP2 HB2
 obtain ⟨c, V3, A, cp, nx, hcl, rfl, HNXE, HM3, HL3, HNS3, HX3, HO3, HP3, HNM3, HI3, HB3⟩ := hrel
 by_cases hlc : c < B.ls.length
 case neg =>
  obtain rfl : c = B.ls.length := by omega
  have hd : decide ((B.ls.length : Int) < (B.ls.length : Int)) = false := by simp
  have hd2 : decide (B.ls.length < B.ls.length) = false := by simp
  obtain ⟨S3, hS3⟩ : ∃ z, (nxtS B S2 q wd B.ls.length).1 = z := ⟨_, rfl⟩
  rw [hS3] at HL3
  have HS3 := Lh hS3
  have hfM : ∀ k, (k < B.n ∨ k = xb ∨ ownA A = some k) → ¬ Mut B V3 k := fun k hk hm => by
   rcases hk with hk | hk | hk
   ·have h4 := (HM3.out.mut_lt hm).1
    have h5 : B.n ≤ k := h4
    omega
   ·subst hk; exact HNM3.out.1 hm
   ·exact HM3.out.ints HO3.out hk hm
  have HM4 : Hid (Mk (avB B fun k => k < B.n) V3 wr) := Lh (HM3.out.swap (Nat.le_refl _) (fun _ _ _ => rfl) hfM (fun k hk => ⟨by have := HM3.out.nle; have h5 : B.n ≤ wr.heap.size := this; omega, .inl (.inl hk)⟩))
  have hAM : ∀ k, ownA A = some k → ¬ Mut B V3 k := fun k hk => hfM k (.inr (.inr hk))
  have HAM := Lh hAM
  have HXB := Lh (hfM xb (.inr (.inl rfl)))
  clear hS3 hfM hAM hlc
  go_wp2_with fail
  obtain ⟨w2, hw2⟩ : ∃ z, wr.drew = z := ⟨_, rfl⟩
  have hb2 : Below wr.heap.size wr w2 := by rw [← hw2]; exact (Below.refl _ _).drew
  have hh2 : w2.heap = wr.heap := by rw [← hw2]; rfl
  have HM5 : Hid (Mk (avB B fun k => k < B.n) V3 w2) := Lh (HM4.out.below hb2)
  have HB5 : Hid (Below w4.heap.size w4 w2) := Lh (HB3.out.trans (hb2.mono HB3.out.size))
  have HXX : Hid (∀ W' : World, W'.heap[B.mb]? = w2.heap[B.mb]? → W'.heap[xb]? = w2.heap[xb]? → W'.cell? ⟨B.mb, 269, none⟩ = some (.slice V3.na V3.ns.length V3.nc) ∧ W'.cell? ⟨xb, 0, none⟩ = some (.int .i64 (wd.length : Int)) ∧ W'.cell? ⟨xb, 1, none⟩ = some (.slice A nx.length cp) ∧ W'.cell? ⟨xb, 2, none⟩ = some (.int .i64 en)) := Lh fun W' h g => by
   have g2 := g.trans ((by rw [hh2] : w2.heap[xb]? = wr.heap[xb]?).trans HX3.out)
   have h3 := node3 g2
   refine ⟨?_, h3.1, h3.2.1, h3.2.2.1⟩
   have h4 := h.trans HM5.out.box
   have h5 := mkCells_hi B V3 HM5.out.cl 0
   have h6 : (mkCells B V3)[269]? = some (.slice V3.na V3.ns.length V3.nc) := h5
   have h7 : W'.heap[B.mb]? = some (.cells (mkCells B V3).toArray 143 (0, 0)) := h4
   simp only [World.cell?, h7]
   simpa using h6
  have HX4 : Hid (w2.heap[xb]? = some (.cells #[.int .i64 (wd.length : Int), .slice A nx.length cp, .int .i64 en] 64 (0, 0))) := Lh (by rw [hh2]; exact HX3.out)
  have HO4 : Hid (w2.ownsRow wc.heap.size 3 1 (.slice A nx.length cp) nx.length (nx.map (Value.int .i64))) := Lh (own_keep HO3.out fun k _ => by rw [hh2])
  have HS2 : Hid (w2.heap.size = wr.heap.size) := Lh (by rw [hh2])
  have h2 := HXX.out w2 rfl rfl
  clear hb2 hh2
  refine wp_region_Z 12 (by kernel_rfl) (fun W' => W'.cell? ⟨B.mb, 269, none⟩ = some (.slice V3.na V3.ns.length V3.nc) ∧ W'.cell? ⟨xb, 0, none⟩ = some (.int .i64 (wd.length : Int)) ∧ W'.cell? ⟨xb, 1, none⟩ = some (.slice A nx.length cp) ∧ W'.cell? ⟨xb, 2, none⟩ = some (.int .i64 en)) (by rw [hw2]; exact h2) (fun hHeld => ?_)
  refine zt (v := ?_) 0 rfl ?_ ?_
  rotate_left
  ·intro w hSw; (try dsimp only at hSw); go_simp; (try with_reducible rfl)
  (try simp only [Act.put, zq1, zq2, zq3, zq4, zq5, zq6])
  refine zt (v := ?_) 1 rfl ?_ ?_
  rotate_left
  ·intro w hSw; (try dsimp only at hSw); go_simp; (try with_reducible rfl)
  (try simp only [Act.put, zq1, zq2, zq3, zq4, zq5, zq6])
  refine zt (v := ?_) 2 rfl ?_ ?_
  rotate_left
  ·intro w hSw; (try dsimp only at hSw); go_simp; (try with_reducible rfl)
  (try simp only [Act.put, zq1, zq2, zq3, zq4, zq5, zq6])
  refine zt (v := ?_) 3 rfl ?_ ?_
  rotate_left
  ·intro w hSw; (try dsimp only at hSw); go_simp; (try with_reducible rfl)
  (try simp only [Act.put, zq1, zq2, zq3, zq4, zq5, zq6])
  refine zt (v := ?_) 4 rfl ?_ ?_
  rotate_left
  ·intro w hSw; (try dsimp only at hSw); go_simp; (try with_reducible rfl)
  (try simp only [Act.put, zq1, zq2, zq3, zq4, zq5, zq6])
  refine zt (v := ?_) 5 rfl ?_ ?_
  rotate_left
  ·intro w hSw; (try dsimp only at hSw); go_simp; (try with_reducible rfl)
  (try simp only [Act.put, zq1, zq2, zq3, zq4, zq5, zq6])
  refine zt (v := ?_) 6 rfl ?_ ?_
  rotate_left
  ·intro w hSw; (try dsimp only at hSw); go_simp; (try with_reducible rfl)
  (try simp only [Act.put, zq1, zq2, zq3, zq4, zq5, zq6])
  rw [hw2]
  refine zr 7 rfl fun K hK => ?_
  go_simp
  have hml : B.mb < w2.heap.size := HM5.out.mlt
  have hxl : xb < w2.heap.size := (Array.getElem?_eq_some_iff.1 HX4.out).1
  have h3 : ∀ o, (w2.alloc o).cell? ⟨B.mb, 269, none⟩ = some (.slice V3.na V3.ns.length V3.nc) ∧ (w2.alloc o).cell? ⟨xb, 0, none⟩ = some (.int .i64 (wd.length : Int)) ∧ (w2.alloc o).cell? ⟨xb, 1, none⟩ = some (.slice A nx.length cp) ∧ (w2.alloc o).cell? ⟨xb, 2, none⟩ = some (.int .i64 en) := fun o => HXX.out _ (Below.heap_alloc _ _ _ hml) (Below.heap_alloc _ _ _ hxl)
  refine hK.out _ _ (h3 _) (fun hHeld => ?_)
  clear hK K
  (try simp only [Act.put, zq1, zq2, zq3, zq4, zq5, zq6])
  obtain ⟨i0, hi, hz0, hz1, hz2⟩ := info_parts infoNodeM
  have hnl4 : V3.ns.length ≤ 4096 := by rw [HNS3.out]; have := HNS.out.1; omega
  have hl40 : V3.ns.length < 1099511627776 := by omega
  have hn6 : B.n ≤ w2.heap.size := HM5.out.nle
  refine zr 8 rfl fun K hK => ?_
  refine step_pushG rfl _ _ 45 rfl B.n 64 i0 _ 3 40 Tryz.underlying45 hi hz0 hz1 hz2 rfl (by decide) HM5.out.nl rfl [.int .i64 (wd.length : Int), .slice A nx.length cp, .int .i64 en] 64 rfl rfl (by simp [Value.oneCell']) hl40 (by decide) hn6 ?_
  intro A9 c9 w9 HO9 HG9 HN9
  have hneM : ownA V3.na ≠ some B.mb := own_ne_cells HM5.out.nl HM5.out.box tyNM
  have hneX : ownA V3.na ≠ some xb := fun e => HXB.out (.inr (.inr (.inr (.inr (.inr (.inr (.inr e)))))))
  have hm9 : w9.heap[B.mb]? = w2.heap[B.mb]? := (HG9.out.block _ (by simp; omega) (fun e => hneM e.symm)).trans (Below.heap_alloc _ _ _ hml)
  have hx9 : w9.heap[xb]? = w2.heap[xb]? := (HG9.out.block _ (by simp; omega) (fun e => hneX e.symm)).trans (Below.heap_alloc _ _ _ hxl)
  have h9 := HXX.out w9 hm9 hx9
  have h9m : w9.heap[B.mb]? = some (.cells (mkCells B V3).toArray 143 (0, 0)) := hm9.trans HM5.out.box
  have h9f : w9.frozen? ⟨B.mb, 269, none⟩ = false := by simp [World.frozen?, h9m]
  refine hK.out _ _ (h9) (fun hHeld => ?_)
  clear hK K
  (try simp only [Act.put, zq1, zq2, zq3, zq4, zq5, zq6])
  refine zr 9 rfl fun K hK => ?_
  go_simp
  refine hK.out _ _ (h9) (fun hHeld => ?_)
  clear hK K
  (try simp only [Act.put, zq1, zq2, zq3, zq4, zq5, zq6])
  refine zr 10 rfl fun K hK => ?_
  go_simp
  refine hK.out _ _ (h9) (fun hHeld => ?_)
  clear hK K
  (try simp only [Act.put, zq1, zq2, zq3, zq4, zq5, zq6])
  refine zt (v := ?_) 11 rfl ?_ ?_
  rotate_left
  ·intro w hSw; (try dsimp only at hSw); go_simp; (try with_reducible rfl)
  (try simp only [Act.put, zq1, zq2, zq3, zq4, zq5, zq6])
  refine wpAnyZ_last (i := 12) rfl (by kernel_rfl) (by kernel_rfl) rfl (fun K hK => ?_)
  go_simp
  refine hK.out _ _ ?_
  obtain ⟨w10, hw10⟩ : ∃ z, w9.setCell ⟨B.mb, 269, none⟩ (.slice A9 (V3.ns.length + 1) c9) = z := ⟨_, rfl⟩
  have hst : ∀ k, k ≠ B.mb → w10.heap[k]? = w9.heap[k]? := fun k hk => by rw [← hw10]; exact heap_setCell_other _ _ _ _ hk
  have hs9 := HG9.out.size
  simp at hs9
  have hs10 : w10.heap.size = w9.heap.size := by rw [← hw10]; simp
  have hnewA : ∀ g, ownA A9 = some g → ownA V3.na = some g ∨ w2.heap.size + 1 ≤ g := fun g hg => by
   rcases HN9.out with e2 | ⟨q, e2, hq⟩
   ·rw [e2] at hg; exact .inl hg
   ·rw [e2] at hg; injection hg with hg; right; omega
  have hchain : ∀ k, k < w2.heap.size → k ≠ B.mb → ownA V3.na ≠ some k → w10.heap[k]? = w2.heap[k]? := fun k hk h1 h2 =>
   (hst k h1).trans ((HG9.out.block k (by simp; omega) (fun e => h2 e.symm)).trans (Below.heap_alloc _ _ _ hk))
  have hlen : (V3.ns ++ [(⟨(wd.length : Int), A, cp, nx, en⟩ : NodeI)]).length = V3.ns.length + 1 := by simp
  have hnb : B.n ≤ wc.heap.size := HNM.out.1
  have hen : I64 en := by
   have h6 := endI_rng B S ((q : Int), wd)
   have h7 := HL.out.ends
   have h8 := hec
   rw [HEN.out, ← h7, List.length_map] at h6
   unfold I64; omega
  have hnxl : nx.length ≤ 1048576 := by rw [HNXE.out, (nxtS_le B S2 (q : Int) wd B.ls.length).2.2.2]; omega
  have HROW : Hid (∀ U : World, (∀ k, ownA A = some k → U.heap[k]? = w2.heap[k]?) → IntsAt A nx U) := Lh fun U hU => by
   have h6 := own_keep HO4.out hU
   rw [List.map_eq_flatMap] at h6
   exact (rows_own h6 (by omega) (fun x hx V => HI3.out x hx)).now
  have hAk : ∀ k, ownA A = some k → w10.heap[k]? = w2.heap[k]? := fun k hk => hchain k (own_ty HO4.out hk).2.1 (fun e => HAM.out k hk (.inl e)) (fun e => HAM.out k hk (.inr (.inr (.inr (.inr (.inr (.inr (.inr e))))))))
  have hAf : ∀ k, ownA A = some k → ¬ Mut B (withN V3 A9 c9 (V3.ns ++ [(⟨(wd.length : Int), A, cp, nx, en⟩ : NodeI)])) k := fun k hk hm => by
   have h6 := HAM.out k hk
   have h7 := (own_ty HO4.out hk).2.1
   rcases hm with e | e | e | e | e | e | e | e
   ·exact h6 (.inl e)
   ·exact h6 (.inr (.inl e))
   ·exact h6 (.inr (.inr (.inl e)))
   ·exact h6 (.inr (.inr (.inr (.inl e))))
   ·exact h6 (.inr (.inr (.inr (.inr (.inl e)))))
   ·exact h6 (.inr (.inr (.inr (.inr (.inr (.inl e))))))
   ·exact h6 (.inr (.inr (.inr (.inr (.inr (.inr (.inl e)))))))
   ·rcases hnewA k e with e2 | e2
    ·exact h6 (.inr (.inr (.inr (.inr (.inr (.inr (.inr e2)))))))
    ·omega
  have hMk := Mk.afterNl (B := avB B fun k => k < B.n) HM5.out (W3 := w10) (a := A9) (c := c9) (x := ⟨(wd.length : Int), A, cp, nx, en⟩) (by omega) hchain
   (by
    rw [← hw10, heap_setCell_same w9 B.mb 269 _ _ _ h9m, List.setIfInBounds_toArray, ← hlen, mkCells_set269 B V3 HM5.out.cl]; rfl)
   (by
    rw [hlen, List.flatMap_append]
    have h := own_keep HO9.out (w' := w10) (fun k hk => hst k (fun e => by
     rcases hnewA k hk with e2 | e2
     ·exact hneM (e ▸ e2)
     ·omega))
    simpa [nodeC] using h)
   (fun g hg => by
    rcases hnewA g hg with e2 | e2
    ·exact .inl e2
    ·right; omega)
   (fun U hU => have hk : ∀ k, ownA A = some k → U.heap[k]? = w2.heap[k]? := fun k hk => (hU k ⟨hAf k hk, fun h => by have h5 : k < B.n := h; have := (own_ty HO4.out hk).1; omega⟩ (by have := (own_ty HO4.out hk).2.1; omega)).trans (hAk k hk); ⟨⟨⟨by show I64 (wd.length : Int); unfold I64; have := HCL.out.1; omega, hen⟩, HROW.out U hk⟩, by have h := own_unf (own_keep HO4.out hk); exact h⟩)
  have HFIN : Hid (∃ (V' : MkV) (S' : LayS), Hid (Mk (avB B fun k => k < B.n) V' w10) ∧ Hid (Lays B V' S') ∧ Hid (LayOk B S') ∧ Hid (V'.ns.length = k + 1 ∧ layF B 4098 0 S0 [] = layF B (4098 - (k + 1)) (k + 1) S' (V'.ns.map NodeI.L)) ∧ Hid (Below w4.heap.size w4 w10)) := Lh (by
   refine ⟨_, S3, Lh hMk.1, Lh ⟨HL3.out.ps, HL3.out.acts, HL3.out.ends, HL3.out.aok, HL3.out.eok⟩, Lh ?_, Lh ⟨?_, ?_⟩, Lh ?_⟩
   ·rw [← HS3.out]
    exact HO2.out.nxt HDST.out ⟨by omega, HQN.out⟩ HCL.out (Nat.le_refl _)
   ·show (V3.ns ++ [_]).length = k + 1
    rw [List.length_append, HNS3.out, HNS.out.1]; rfl
   ·rw [HNS.out.2]
    obtain ⟨f, hf⟩ : ∃ f, 4098 - k = f + 1 := ⟨4097 - k, by omega⟩
    have hpk : S.ps[k]? = some ((q : Int), wd) := by rw [← HL.out.ps]; exact HPK.out
    rw [hf, layF, if_neg (by rw [← HL.out.ps]; have := HSML.out; omega), hpk]
    have e1 : 4098 - (k + 1) = f := by omega
    rw [e1]
    show layF B f (k + 1) (nodeS B S ((q : Int), wd)).1 (V.ns.map NodeI.L ++ [(nodeS B S ((q : Int), wd)).2]) = layF B f (k + 1) S3 ((V3.ns ++ [(⟨(wd.length : Int), A, cp, nx, en⟩ : NodeI)]).map NodeI.L)
    have e2 : (nodeS B S ((q : Int), wd)).1 = S3 := by unfold nodeS; rw [HES.out]; exact HS3.out
    have e3 : (nodeS B S ((q : Int), wd)).2 = ⟨(wd.length : Int), nx, en⟩ := by unfold nodeS; rw [HES.out, HEN.out, HNXE.out]
    rw [e2, e3, List.map_append, HNS3.out]; rfl
   ·have h8 := ((HB5.out.alloc (by have := HB5.out.size; omega) (.cells [.int .i64 (wd.length : Int), .slice A nx.length cp, .int .i64 en].toArray 64)).grown HG9.out (by have := HB5.out.size; simp; omega) (fun k hk => by have h9 := (own_ty HM5.out.nl hk).1; have h10 : B.n ≤ k := h9; rw [← HBN.out]; exact h10)).setCell (p := ⟨B.mb, 269, none⟩) (by have h9 := HM5.out.lo.1; have h10 : B.n ≤ B.mb := h9; rw [← HBN.out]; exact h10) (.slice A9 (V3.ns.length + 1) c9)
    rw [hw10] at h8
    exact h8)
  rw [hw10]
  clear hw10 hst hs9 hs10 hnewA hchain hlen hAk hAf hMk h9m h9f h9 hm9 hx9 hneM hneX hHeld hK K HO9 HG9 HN9 h2 h3 hw2 hml hxl hnb hen hnxl hd hd2
  (try simp only [Act.put, zq1, zq2, zq3, zq4, zq5, zq6])
  go_wp2_with fail
  go_roundw
  case rel =>
   obtain ⟨V5, S5, f1, f2, f3, f4, f5⟩ := HFIN.out
   exact ⟨k + 1, V5, S5, by have := HLT.out; have := HSML.out; omega, by go_num, f1, f2, f3, f4, f5⟩
  case measure => simp [intOf]; omega
 have hnsz : B.n ≤ wr.heap.size := HM3.out.nle
 have HAM : Hid (∀ k, ownA A = some k → ¬ Mut B V3 k) := Lh fun k hk => HM3.out.ints HO3.out hk
 have hfM : ∀ k, (k < B.n ∨ k = xb ∨ ownA A = some k) → ¬ Mut B V3 k := fun k hk hm => by
  rcases hk with hk | hk | hk
  ·have h4 := (HM3.out.mut_lt hm).1
   have h5 : B.n ≤ k := h4
   omega
  ·subst hk; exact HNM3.out.1 hm
  ·exact HAM.out k hk hm
 have HFM := Lh hfM
 have HLV3 : Hid (Lays (avB B fun k => k < B.n ∨ k = xb ∨ ownA A = some k) V3 (nxtS B S2 q wd c).1) := Lh ⟨HL3.out.ps, HL3.out.acts, HL3.out.ends, HL3.out.aok, HL3.out.eok⟩
 have hcn := HM3.out.counts HLV3.out
 have hac : V3.acs.length ≤ 4096 := Nat.le_trans hcn.1 hrlB
 have hnx := nxtS_le B S2 (q : Int) wd c
 have hpl : V3.ps.length ≤ 1000000 := by rw [HL3.out.ps]; have := HP4.out; omega
 have hnl : nx.length = c := by rw [HNXE.out]; exact hnx.2.2.2
 have HNL := Lh hnl
 have hrlC : B.d.rs.length ≤ 1048576 := by omega
 have HWC : Hid (wd.length < 4 → ClsOk B.ls (wd ++ [(c : Int)]) ∧ PlaceOk ((q : Int), wd ++ [(c : Int)])) := Lh fun h4 => by
  have h5 : ClsOk B.ls (wd ++ [(c : Int)]) := ⟨by rw [List.length_append, List.length_singleton]; omega, fun x hx => by
   rcases List.mem_append.1 hx with hx | hx
   ·exact HCL.out.2 x hx
   ·rw [List.mem_singleton] at hx; subst hx; omega⟩
  exact ⟨h5, by have := HQN.out; unfold I64; show _ ∧ _; omega, h5.1, fun x hx => by have := h5.2 x hx; unfold I64; omega⟩
 have hw4 : wd.length ≤ 4 := HCL.out.1
 have hli : (c : Int) < (B.ls.length : Int) := by omega
 have hc0 : (0 : Int) ≤ (c : Int) := by omega
 clear hcn hnx hnl hfM
 go_wp2_with fail
 obtain ⟨w2, hw2⟩ : ∃ z, wr.drew = z := ⟨_, rfl⟩
 have hb2 : Below wr.heap.size wr w2 := by rw [← hw2]; exact (Below.refl _ _).drew
 have hh2 : w2.heap = wr.heap := by rw [← hw2]; rfl
 have HM4 : Hid (Mk (avB B fun k => k < B.n ∨ k = xb ∨ ownA A = some k) V3 w2) := Lh (HM3.out.below hb2)
 have HB4 : Hid (Below w4.heap.size w4 w2) := Lh (HB3.out.trans (hb2.mono HB3.out.size))
 have HXX : Hid (∀ W' : World, W'.heap[wo.heap.size]? = wr.heap[wo.heap.size]? → W'.heap[xb]? = wr.heap[xb]? → (W'.cell? ⟨wo.heap.size, 0, none⟩ = some (.int .i64 (q : Int)) ∧ W'.cell? ⟨wo.heap.size, 1, none⟩ = some (.int .i64 (wd.length : Int)) ∧ W'.cell? ⟨wo.heap.size, 2, none⟩ = some (.int .i64 c0) ∧ W'.cell? ⟨wo.heap.size, 3, none⟩ = some (.int .i64 c1) ∧ W'.cell? ⟨wo.heap.size, 4, none⟩ = some (.int .i64 c2) ∧ W'.cell? ⟨wo.heap.size, 5, none⟩ = some (.int .i64 c3)) ∧ W'.cell? ⟨xb, 1, none⟩ = some (.slice A nx.length cp)) := Lh fun W' h g => ⟨place6 (h.trans HP3.out), (node3 (g.trans HX3.out)).2.1⟩
 have HH2 : Hid (w2.heap = wr.heap) := Lh hh2
 have h2 := HXX.out w2 (by rw [hh2]) (by rw [hh2])
 clear hb2 hh2
 refine wp_region_Z 9 (by kernel_rfl) (fun W' => (W'.cell? ⟨wo.heap.size, 0, none⟩ = some (.int .i64 (q : Int)) ∧ W'.cell? ⟨wo.heap.size, 1, none⟩ = some (.int .i64 (wd.length : Int)) ∧ W'.cell? ⟨wo.heap.size, 2, none⟩ = some (.int .i64 c0) ∧ W'.cell? ⟨wo.heap.size, 3, none⟩ = some (.int .i64 c1) ∧ W'.cell? ⟨wo.heap.size, 4, none⟩ = some (.int .i64 c2) ∧ W'.cell? ⟨wo.heap.size, 5, none⟩ = some (.int .i64 c3)) ∧ W'.cell? ⟨xb, 1, none⟩ = some (.slice A nx.length cp)) (by rw [hw2]; exact h2) (fun hHeld => ?_)
 refine zt (v := ?_) 0 rfl ?_ ?_
 rotate_left
 ·intro w hSw; (try dsimp only at hSw); go_simp; (try with_reducible rfl)
 (try simp only [Act.put, zq1, zq2, zq3, zq4, zq5, zq6])
 refine zt (v := ?_) 1 rfl ?_ ?_
 rotate_left
 ·intro w hSw; (try dsimp only at hSw); go_simp; (try with_reducible rfl)
 (try simp only [Act.put, zq1, zq2, zq3, zq4, zq5, zq6])
 refine zt (v := ?_) 2 rfl ?_ ?_
 rotate_left
 ·intro w hSw; (try dsimp only at hSw); go_simp; (try with_reducible rfl)
 (try simp only [Act.put, zq1, zq2, zq3, zq4, zq5, zq6])
 refine zt (v := ?_) 3 rfl ?_ ?_
 rotate_left
 ·intro w hSw; (try dsimp only at hSw); go_simp; (try with_reducible rfl)
 (try simp only [Act.put, zq1, zq2, zq3, zq4, zq5, zq6])
 refine zt (v := ?_) 4 rfl ?_ ?_
 rotate_left
 ·intro w hSw; (try dsimp only at hSw); go_simp; (try with_reducible rfl)
 (try simp only [Act.put, zq1, zq2, zq3, zq4, zq5, zq6])
 rw [hw2]
 refine zr 5 rfl fun K hK => ?_
 go_simp
 refine (next_av w2 B (fun k => k < B.n ∨ k = xb ∨ ownA A = some k) V3 (nxtS B S2 q wd c).1 HM4 HL3 (Lh fun W' hW => HDB.out w2 W' HB4.out hW) HMO q wd c HQN.out hw4 HWC wd.length c0 c1 c2 c3 HPC hpl (by omega) hflC hrlC HRO).mono ?_
 rintro e w5' ⟨V4, rfl, HM5', HF5, HL5, hns5⟩
 have hsz2 : w2.heap.size = wr.heap.size := by rw [HH2.out]
 have hlo : wo.heap.size < wr.heap.size := (Array.getElem?_eq_some_iff.1 HP3.out).1
 have hlx : xb < wr.heap.size := (Array.getElem?_eq_some_iff.1 HX3.out).1
 have hx5 : w5'.heap[wo.heap.size]? = wr.heap[wo.heap.size]? := (HF5.out.blk _ (by omega) HNM3.out.2.1).trans (by rw [HH2.out])
 have hn5 : w5'.heap[xb]? = wr.heap[xb]? := (HF5.out.blk _ (by omega) HNM3.out.1).trans (by rw [HH2.out])
 have h5 := HXX.out w5' hx5 hn5
 have HX5 := Lh hx5
 have HN5 := Lh hn5
 have HO5 : Hid (w5'.ownsRow wc.heap.size 3 1 (.slice A nx.length cp) nx.length (nx.map (Value.int .i64))) := Lh (own_keep HO3.out fun k hk => (HF5.out.blk _ (by rw [hsz2]; exact (own_ty HO3.out hk).2.1) (HAM.out k hk)).trans (by rw [HH2.out]))
 have HSZ2 := Lh hsz2
 have HLO := Lh (And.intro hlo hlx)
 have hs5 : w2.heap.size ≤ w5'.heap.size := HF5.out.bel.size
 have HS5 := Lh hs5
 clear hx5 hn5 hsz2 hlo hlx hs5
 refine hK.out _ _ (h5) (fun hHeld => ?_)
 clear hK K
 (try simp only [Act.put, zq1, zq2, zq3, zq4, zq5, zq6])
 refine zr 6 rfl fun K hK => ?_
 go_simp
 have hk5 : ∀ o, ((w5'.alloc o).cell? ⟨wo.heap.size, 0, none⟩ = some (.int .i64 (q : Int)) ∧ (w5'.alloc o).cell? ⟨wo.heap.size, 1, none⟩ = some (.int .i64 (wd.length : Int)) ∧ (w5'.alloc o).cell? ⟨wo.heap.size, 2, none⟩ = some (.int .i64 c0) ∧ (w5'.alloc o).cell? ⟨wo.heap.size, 3, none⟩ = some (.int .i64 c1) ∧ (w5'.alloc o).cell? ⟨wo.heap.size, 4, none⟩ = some (.int .i64 c2) ∧ (w5'.alloc o).cell? ⟨wo.heap.size, 5, none⟩ = some (.int .i64 c3)) ∧ (w5'.alloc o).cell? ⟨xb, 1, none⟩ = some (.slice A nx.length cp) := fun o => ⟨⟨cellAl o h5.1.1, cellAl o h5.1.2.1, cellAl o h5.1.2.2.1, cellAl o h5.1.2.2.2.1, cellAl o h5.1.2.2.2.2.1, cellAl o h5.1.2.2.2.2.2⟩, cellAl o h5.2⟩
 refine hK.out _ _ (hk5 _) (fun hHeld => ?_)
 clear hK K
 (try simp only [Act.put, zq1, zq2, zq3, zq4, zq5, zq6])
 obtain ⟨i0, hi, hz0, hz1, hz2⟩ := info_parts infoIc
 have hl40 : nx.length < 1099511627776 := by have := HNL.out; omega
 have hn6 : wc.heap.size ≤ w5'.heap.size := by have := HNM3.out.2.2; have := HSZ2.out; have := HS5.out; omega
 refine zr 7 rfl fun K hK => ?_
 refine step_pushG rfl _ _ 62 rfl wc.heap.size 3 i0 _ 1 8 Tryz.underlying62 hi hz0 hz1 hz2 rfl (by decide) HO5.out rfl [.int .i64 (nextS B (nxtS B S2 q wd c).1 q wd c).2] 3 rfl rfl (by simp [Value.oneCell']) hl40 (by decide) hn6 ?_
 intro A9 c9 w9 HO9 HG9 HN9
 have hso := HS5.out
 have hsq := HSZ2.out
 have hlo := HLO.out
 have hneO : ownA A ≠ some wo.heap.size := own_ne_cells HO5.out (HX5.out.trans HP3.out) tyIP
 have hneX : ownA A ≠ some xb := own_ne_cells HO5.out (HN5.out.trans HX3.out) tyIN
 have hx9 : w9.heap[wo.heap.size]? = wr.heap[wo.heap.size]? := (HG9.out.block _ (by simp; omega) (fun e => hneO e.symm)).trans ((Below.heap_alloc _ _ _ (by omega)).trans HX5.out)
 have hn9 : w9.heap[xb]? = wr.heap[xb]? := (HG9.out.block _ (by simp; omega) (fun e => hneX e.symm)).trans ((Below.heap_alloc _ _ _ (by omega)).trans HN5.out)
 have h9 := HXX.out w9 hx9 hn9
 have h9f := (node3 (hn9.trans HX3.out)).2.2.2
 refine hK.out _ _ (h9) (fun hHeld => ?_)
 clear hK K
 (try simp only [Act.put, zq1, zq2, zq3, zq4, zq5, zq6])
 refine zr 8 rfl fun K hK => ?_
 go_simp
 refine hK.out _ _ (h9) (fun hHeld => ?_)
 clear hK K
 (try simp only [Act.put, zq1, zq2, zq3, zq4, zq5, zq6])
 refine wpAnyZ_last (i := 9) rfl (by kernel_rfl) (by kernel_rfl) rfl (fun K hK => ?_)
 go_simp
 refine hK.out _ _ ?_
 obtain ⟨w10, hw10⟩ : ∃ z, w9.setCell ⟨xb, 1, none⟩ (.slice A9 (nx.length + 1) c9) = z := ⟨_, rfl⟩
 have hst : ∀ k, k ≠ xb → w10.heap[k]? = w9.heap[k]? := fun k hk => by rw [← hw10]; exact heap_setCell_other _ _ _ _ hk
 have hs9 := HG9.out.size
 simp at hs9
 have hs10 : w10.heap.size = w9.heap.size := by rw [← hw10]; simp
 have hnewA : ∀ g, ownA A9 = some g → ownA A = some g ∨ w5'.heap.size + 1 ≤ g := fun g hg => by
  rcases HN9.out with e2 | ⟨q, e2, hq⟩
  ·rw [e2] at hg; exact .inl hg
  ·rw [e2] at hg; injection hg with hg; right; omega
 have hchain : ∀ k, k < w5'.heap.size → ¬ (k < B.n ∨ k = xb ∨ ownA A = some k) → w10.heap[k]? = w5'.heap[k]? := fun k hk hn =>
  (hst k (fun e => hn (.inr (.inl e)))).trans ((HG9.out.block k (by simp; omega) (fun e => hn (.inr (.inr e.symm)))).trans (Below.heap_alloc _ _ _ hk))
 have hlA : ∀ k, ownA A = some k → k < wr.heap.size := fun k hk => (own_ty HO3.out hk).2.1
 have HFIN : Hid (∃ (V3 : MkV) (A : Option Addr) (cp : Nat) (nx' : List Int), Value.slice A9 (nx.length + 1) c9 = .slice A nx'.length cp ∧ Hid (nx' = (nxtS B S2 q wd (c + 1)).2) ∧ Hid (Mk (avB B fun k => k < B.n ∨ k = xb ∨ ownA A = some k) V3 w10) ∧ Hid (Lays B V3 (nxtS B S2 q wd (c + 1)).1) ∧ Hid (V3.ns = V.ns) ∧ Hid (w10.heap[xb]? = some (.cells #[.int .i64 (wd.length : Int), .slice A nx'.length cp, .int .i64 en] 64 (0, 0))) ∧ Hid (w10.ownsRow wc.heap.size 3 1 (.slice A nx'.length cp) nx'.length (nx'.map (Value.int .i64))) ∧ Hid (w10.heap[wo.heap.size]? = some (.cells #[.int .i64 (q : Int), .int .i64 (wd.length : Int), .int .i64 c0, .int .i64 c1, .int .i64 c2, .int .i64 c3] 150 (0, 0))) ∧ Hid (¬ Mut B V3 xb ∧ ¬ Mut B V3 wo.heap.size ∧ wc.heap.size ≤ w10.heap.size) ∧ Hid (∀ v ∈ nx', I64 v) ∧ Hid (Below w4.heap.size w4 w10)) := Lh (by
  have hlen : (nx ++ [(nextS B (nxtS B S2 q wd c).1 q wd c).2]).length = nx.length + 1 := by simp
  have hsub := HF5.out.sub
  refine ⟨V4, A9, c9, nx ++ [(nextS B (nxtS B S2 q wd c).1 q wd c).2], by rw [hlen], Lh (by rw [HNXE.out]; rfl), Lh ?_, Lh HL5.out.av, Lh (hns5.trans HNS3.out), Lh ?_, Lh ?_, Lh ?_, Lh ⟨fun hm => HNM3.out.1 (hsub _ (by omega) hm), fun hm => HNM3.out.2.1 (hsub _ (by omega) hm), by have := HNM3.out.2.2; omega⟩, Lh ?_, Lh ?_⟩
  ·refine HM5'.out.swap (by omega) hchain (fun k hk hm => HFM.out k hk (hsub _ ?_ hm)) (fun k hk => ?_)
   ·rcases hk with hk | hk | hk
    ·have := HM3.out.nle; have h5 : B.n ≤ wr.heap.size := this; omega
    ·omega
    ·have := hlA k hk; omega
   ·rcases hk with hk | hk | hk
    ·have := HM3.out.nle; have h5 : B.n ≤ wr.heap.size := this; exact ⟨by omega, .inl (.inl hk)⟩
    ·exact ⟨by omega, .inl (.inr (.inl hk))⟩
    ·have h6 := (own_ty HO9.out hk).2.1
     rcases hnewA k hk with h7 | h7
     ·exact ⟨by omega, .inl (.inr (.inr h7))⟩
     ·exact ⟨by omega, .inr (by omega)⟩
  ·rw [← hw10, heap_setCell_same w9 xb 1 _ _ _ (hn9.trans HX3.out), hlen]; rfl
  ·rw [hlen, List.map_append]
   exact own_keep HO9.out fun k hk => hst k (fun e => by
    rcases hnewA k hk with h7 | h7
    ·exact hneX (e ▸ h7)
    ·omega)
  ·rw [hst _ HNX.out.2.2.2.symm, hx9]; exact HP3.out
  ·intro v hv
   rcases List.mem_append.1 hv with hv | hv
   ·exact HI3.out v hv
   ·rw [List.mem_singleton] at hv; subst hv
    have h6 := nextS_rng B (nxtS B S2 q wd c).1 q wd c
    rw [← HL3.out.ps, ← HL3.out.acts, List.length_map] at h6
    unfold I64; omega
  ·have h6 : Below w4.heap.size w4 w5' := HB4.out.trans (by have h : Below B.n w2 w5' := HF5.out.bel; rwa [HBN.out] at h)
   have h7 : w4.heap.size ≤ wc.heap.size := by rw [← HBN.out]; exact HNM.out.1
   have h8 := ((h6.alloc (by omega) (.cells [.int .i64 (nextS B (nxtS B S2 q wd c).1 q wd c).2].toArray 3)).grown HG9.out (by simp; omega) (fun k hk => by have := (own_ty HO3.out hk).1; omega)).setCell (p := ⟨xb, 1, none⟩) (by rw [← HBN.out]; exact HNX.out.1) (.slice A9 (nx.length + 1) c9)
   rw [hw10] at h8
   exact h8)
 rw [hw10]
 clear hw10 hst hs9 hs10 hnewA hchain hlA h9 h9f hn9 hx9 hneX hneO hHeld hK K HO9 HG9 HN9 hso hsq hlo h5 hk5 h2 hw2
 (try simp only [Act.put, zq1, zq2, zq3, zq4, zq5, zq6])
 go_wp2_with fail
 go_roundw
 case rel =>
  obtain ⟨V5, A5, cp5, nx5, -, f1, f2, f3, f4, f5, f6, f7, f8, f9, f10⟩ := HFIN.out
  exact ⟨c + 1, V5, A5, cp5, nx5, by omega, by go_num, f1, f2, f3, f4, f5, f6, f7, f8, f9, f10⟩
 case measure => simp [intOf]; omega
theorem compile_st (hK : Hid (St w0 w F)) (d : DescI) (hd : ∀ W, F W → DescW d W) (hst : StageD d) :
  Calls Tryz.prog 28 #[.agg #[.int .i64 d.i, .int .i64 d.o, .int .i64 d.n, .int .i64 d.s, .slice d.ra d.rs.length d.rc, .slice d.fa d.fs.length d.fc]] w (RetComp w0 d F) := (compile_stN hK d hd hst).mono fun _ _ h => h.comp
end
end
section
theorem yielded_undef {ops : Array Oper} {tmps : Array Value} {j : Nat} (h : ((ops[j]?).bind (·.dst)).bind (tmps[·]?) = some undef) : yielded ops tmps j = none := by
 unfold yielded; rw [h]; rfl
attribute [local go_sem ↓] yielded_undef
section
variable {w0 w : World} {F : World → Prop} {A : Option Addr} {l : List PartL}
theorem Domain1_any (w : World) : Calls Tryz.prog 54 #[.int .i64 1] w fun e w' => (∃ A, e = .returned (.slice A 1 1)) ∧ Below w.heap.size w w' := by
 go_enter Tryz.func54, Tryz.ntmps54
 go_wp2_with fail
 go_ret
 exact ⟨⟨_, rfl⟩, (Below.refl _ _).alloc (Nat.le_refl _) _⟩
theorem Domain1_st (hK : Hid (St w0 w F)) : Calls Tryz.prog 54 #[.int .i64 1] w fun e w' => (∃ A, e = .returned (.slice A 1 1)) ∧ Hid (St w0 w' F) :=
 (Domain1_any w).mono fun e w' ⟨h1, h2⟩ => ⟨h1, St.hstep hK h2⟩
def PartsTo (n : Int) (l : List PartL) (k : Nat) : Prop := ∀ p ∈ l.take k, PartOk n p
theorem tRight_st (hK : Hid (St w0 w F)) (hp : ∀ W, F W → PartsAt A l W) (b d t u s : Int) (c : Nat) (n : Int) (v : Bool) (hv : Hid (pB (TermOk n ⟨b, d, t, u, s, l⟩) = v)) :
  Calls Tryz.prog 172 #[.agg #[.int .i64 b, .int .i64 d, .int .i64 t, .int .i64 u, .int .i64 s, .slice A l.length c], .int .i64 1, .int .i64 1, .int .i64 n] w (RetV w0 (.bool v) F) := by
 have hln := (hp _ hK.out.now).ln
 have HP := Lh hp
 have HK := St.box hK [.int .i64 b, .int .i64 d, .int .i64 t, .int .i64 u, .int .i64 s, .slice A l.length c] 68
 clear hp
 go_enter Tryz.func172, Tryz.ntmps172
 go_wp2_with fail
 refine (Domain1_st HK).mono ?_
 rintro e w1 ⟨⟨A1, rfl⟩, HK1⟩
 go_wp2_with fail
 refine (Domain1_st HK1).mono ?_
 rintro e w2 ⟨⟨A2, rfl⟩, HK2⟩
 obtain ⟨hc0, hc1, hc2, hc3, hc4, hc5⟩ := HK2.out.now.1.c6
 by_cases a1 : NumsOk ⟨b, d, t, u, s, l⟩
 case neg =>
  obtain rfl := pB_f hv (fun h => a1 h.1)
  have H1 := Lh (pB_false a1)
  clear a1
  go_wp2_with fail
  refine (numbers_st HK2 (fun _ h => HP.out _ h.2) b d t u s c false H1).mono ?_
  rintro e w3 ⟨rfl, HK3⟩
  go_wp2_with fail
  go_ret
  exact ⟨rfl, Lh (HK3.out.weaken fun _ h => h.2)⟩
 have H1 := Lh (pB_true a1)
 have HA := Lh a1
 clear a1
 go_wp2_with fail
 refine (numbers_st HK2 (fun _ h => HP.out _ h.2) b d t u s c true H1).mono ?_
 rintro e w3 ⟨rfl, HK3⟩
 clear hc0 hc1 hc2 hc3 hc4 hc5
 have hc5 := HK3.out.now.1 5 _ rfl
 have h4 : l.length ≤ 4 := HA.out.2.2.2.2
 go_wp2_with fail
 go_loopw [29] (fun i wr => ∃ k : Nat, k ≤ l.length ∧ i = .int .i64 k ∧ Hid (PartsTo n l k) ∧ Hid (St w0 wr (fun W => BoxC w.heap.size [.int .i64 b, .int .i64 d, .int .i64 t, .int .i64 u, .int .i64 s, .slice A l.length c] W ∧ F W))) (fun i _ => l.length - (intOf i).toNat)
 case atStart => exact ⟨0, Nat.zero_le _, rfl, Lh (fun p hp => by simp at hp), HK3⟩
 case round =>
 clear hc5
 obtain ⟨k, hk, rfl, HR, HK⟩ := hrel
 by_cases hlt : k < l.length
 ·obtain ⟨pb, off, p, rfl, hx, hw, hd0, hd1, hd2, hd3⟩ := (HP.out _ HK.out.now.2).at_ hlt
  have hlw := lt_of_cell hd0
  have HKp := St.box HK [.int .i64 p.1, .int .i64 p.2.1, .int .i64 p.2.2.1, .int .i64 p.2.2.2] 70
  obtain ⟨x1, x2, x3, x4⟩ := p
  simp only at hd0 hd1 hd2 hd3 HKp
  have HX := Lh hx
  clear hx hw
  by_cases a2 : PartOk n (x1, x2, x3, x4)
  ·have H2 := Lh (pB_true a2)
   have HN : Hid (PartsTo n l (k + 1)) := Lh fun q hq => by
    rw [take_snoc? HX.out] at hq
    rcases List.mem_append.1 hq with hq | hq
    ·exact HR.out q hq
    ·simp at hq; subst hq; exact a2
   clear a2
   go_wp2_with fail
   have HK := St.hdrewN HKp 1
   first | (go_region_with (go_at_call 183; refine (PRight_st HK x1 x2 x3 x4 n true H2).mono ?_; rintro e w5 ⟨rfl, HK⟩)) | fail
   all_goals (go_wp2_with fail; exact ⟨⟨k + 1, by omega, by go_num, HN, Lh (HK.out.weaken fun _ h => h.2)⟩, by simp [intOf]; omega⟩)
  ·have H2 := Lh (pB_false a2)
   obtain rfl := pB_f hv (fun h => a2 (h.2 _ (List.mem_of_getElem? HX.out)))
   clear a2
   go_wp2_with fail
   have HK := St.hdrewN HKp 1
   first | (go_region_with (go_at_call 183; refine (PRight_st HK x1 x2 x3 x4 n false H2).mono ?_; rintro e w5 ⟨rfl, HK⟩)) | fail
   all_goals (go_wp2_with fail; go_ret; exact ⟨rfl, Lh (HK.out.weaken fun _ h => h.2.2)⟩)
 ·obtain rfl : k = l.length := by omega
  have hd : decide (l.length < l.length) = false := by simp
  obtain rfl := pB_t hv ⟨HA.out, by have := HR.out; unfold PartsTo at this; rwa [List.take_length] at this⟩
  go_wp2_with fail
  go_ret
  exact ⟨rfl, Lh (HK.out.weaken fun _ h => h.2)⟩
end
end
section
def RetIx (w0 : World) (v : Bool) (F : World → Prop) (e : Ending) (w' : World) : Prop := ∃ r : Int, e = .returned (.int .i64 r) ∧ ((v = true ∧ r = -1) ∨ (v = false ∧ 0 ≤ r)) ∧ Hid (St w0 w' F)
def TermsTo (n : Int) (l : List TermI) (k : Nat) : Prop := ∀ i ∈ l.take k, TermOk n i.L
theorem TermsTo.all {n : Int} {l : List TermI} (h : TermsTo n l l.length) : TermsOk n (l.map TermI.L) := fun t ht => by
 obtain ⟨i, hi, rfl⟩ := List.mem_map.1 ht
 exact h i (by rwa [List.take_length])
theorem TermsTo.next {n : Int} {l : List TermI} {k : Nat} {i : TermI} (h : TermsTo n l k) (hx : l[k]? = some i) (hi : TermOk n i.L) : TermsTo n l (k + 1) := fun q hq => by
 rw [take_snoc? hx] at hq
 rcases List.mem_append.1 hq with hq | hq
 ·exact h q hq
 ·simp at hq; subst hq; exact hi
section
variable {w0 w : World} {F : World → Prop} {A : Option Addr} {l : List TermI}
theorem trm_st (hK : Hid (St w0 w F)) (i : TermI) (hp : ∀ W, F W → PartsAt i.pa i.ps W) (n : Int) (v : Bool) (hv : Hid (pB (TermOk n i.L) = v)) :
  Calls Tryz.prog 172 #[.agg #[.int .i64 i.b, .int .i64 i.d, .int .i64 i.t, .int .i64 i.u, .int .i64 i.s, .slice i.pa i.ps.length i.pc], .int .i64 1, .int .i64 1, .int .i64 n] w (RetV w0 (.bool v) F) :=
 tRight_st hK hp i.b i.d i.t i.u i.s i.pc n v hv
theorem right1_st (hK : Hid (St w0 w F)) (i : TermI) (hp : ∀ W, F W → PartsAt i.pa i.ps W) (nb : Nat) (n : Int) (hn : ∀ W, F W → BoxC nb [.int .i64 n] W) (v : Bool) (hv : Hid (pB (TermOk n i.L) = v)) :
  Calls Tryz.prog 171 #[.agg #[.int .i64 i.b, .int .i64 i.d, .int .i64 i.t, .int .i64 i.u, .int .i64 i.s, .slice i.pa i.ps.length i.pc], .pointer (some ⟨nb, 0, none⟩)] w (RetV w0 (.bool (!v)) F) := by
 have HK := St.box hK [.int .i64 i.b, .int .i64 i.d, .int .i64 i.t, .int .i64 i.u, .int .i64 i.s, .slice i.pa i.ps.length i.pc] 68
 have hc := hn _ HK.out.now.2 0 _ rfl
 have HP := Lh hp
 clear hp hn
 go_enter Tryz.func171, Tryz.ntmps171
 go_wp2_with fail
 refine (trm_st HK i (fun _ h => HP.out _ h.2) n v hv).mono ?_
 rintro e w1 ⟨rfl, HK1⟩
 cases v
 all_goals
  go_wp2_with fail
  go_ret
  exact ⟨rfl, Lh (HK1.out.weaken fun _ h => h.2)⟩
theorem indexT_st (hK : Hid (St w0 w F)) (hp : ∀ W, F W → TermsAt A l W) (c : Nat) (nb : Nat) (n : Int) (hn : ∀ W, F W → BoxC nb [.int .i64 n] W) (v : Bool) (hv : Hid (pB (TermsOk n (l.map TermI.L)) = v)) :
  Calls Tryz.prog 200 #[.slice A l.length c, .func (.func 171) #[] #[.pointer (some ⟨nb, 0, none⟩)]] w (RetIx w0 v F) := by
 have hln := (hp _ hK.out.now).ln
 have HP := Lh hp
 have HN := Lh hn
 clear hp hn
 go_enter Tryz.func200, Tryz.ntmps200
 go_wp2_with fail
 go_loopw [8] (fun i wr => ∃ k : Nat, k ≤ l.length ∧ i = .int .i64 k ∧ Hid (TermsTo n l k) ∧ Hid (St w0 wr F)) (fun i _ => l.length - (intOf i).toNat)
 case atStart => exact ⟨0, Nat.zero_le _, rfl, Lh (fun i hi => by simp at hi), hK⟩
 case round =>
 obtain ⟨k, hk, rfl, HR, HK⟩ := hrel
 by_cases hlt : k < l.length
 ·obtain ⟨pb, off, i, rfl, hx, hw, hd0, hd1, hd2, hd3, hd4, hd5⟩ := (HP.out _ HK.out.now).at_ hlt
  have HX := Lh hx
  have HKi := Lh (HK.out.add (Below.refl _ _) (G := PartsAt i.pa i.ps) (fun W hW => hw.2.below hW))
  clear hx hw
  by_cases a2 : TermOk n i.L
  ·have H2 := Lh (pB_true a2)
   have HR2 := Lh (HR.out.next HX.out a2)
   clear a2
   go_wp2_with fail
   refine (right1_st HKi i (fun _ h => h.1) nb n (fun _ h => HN.out _ h.2) true H2).mono ?_
   rintro e w1 ⟨rfl, HK1⟩
   go_wp2_with fail
   exact ⟨⟨k + 1, by omega, by go_num, HR2, Lh (HK1.out.weaken fun _ h => h.2)⟩, by simp [intOf]; omega⟩
  ·have H2 := Lh (pB_false a2)
   obtain rfl := pB_f hv (fun h => a2 (h _ (List.mem_map.2 ⟨i, List.mem_of_getElem? HX.out, rfl⟩)))
   clear a2
   go_wp2_with fail
   refine (right1_st HKi i (fun _ h => h.1) nb n (fun _ h => HN.out _ h.2) false H2).mono ?_
   rintro e w1 ⟨rfl, HK1⟩
   go_wp2_with fail
   go_ret
   exact ⟨k, rfl, .inr ⟨rfl, by omega⟩, Lh (HK1.out.weaken fun _ h => h.2)⟩
 ·obtain rfl : k = l.length := by omega
  have hd : decide (l.length < l.length) = false := by simp
  obtain rfl := pB_t hv HR.out.all
  go_wp2_with fail
  go_ret
  exact ⟨-1, rfl, .inl ⟨rfl, rfl⟩, HK⟩
theorem containsT_st (hK : Hid (St w0 w F)) (hp : ∀ W, F W → TermsAt A l W) (c : Nat) (nb : Nat) (n : Int) (hn : ∀ W, F W → BoxC nb [.int .i64 n] W) (v : Bool) (hv : Hid (pB (TermsOk n (l.map TermI.L)) = v)) :
  Calls Tryz.prog 170 #[.slice A l.length c, .func (.func 171) #[] #[.pointer (some ⟨nb, 0, none⟩)]] w (RetV w0 (.bool (!v)) F) := by
 have HP := Lh hp
 have HN := Lh hn
 clear hp hn
 go_enter Tryz.func170, Tryz.ntmps170
 go_wp2_with fail
 refine (indexT_st hK HP.out c nb n HN.out v hv).mono ?_
 rintro e w1 ⟨r, rfl, hr, HK1⟩
 rcases hr with ⟨rfl, rfl⟩ | ⟨rfl, hr⟩
 all_goals
  go_wp2_with fail
  go_ret
  exact ⟨rfl, HK1⟩
theorem right_st (hK : Hid (St w0 w F)) (hp : ∀ W, F W → TermsAt A l W) (c : Nat) (n : Int) (v : Bool) (hv : Hid (pB (TermsOk n (l.map TermI.L)) = v)) :
  Calls Tryz.prog 132 #[.slice A l.length c, .int .i64 n] w (RetV w0 (.bool v) F) := by
 have HP := Lh hp
 have HK := St.box hK [.int .i64 n] 3
 clear hp
 go_enter Tryz.func132, Tryz.ntmps132
 go_wp2_with fail
 refine (containsT_st HK (fun _ h => HP.out _ h.2) c w.heap.size n (fun _ h => h.1) v hv).mono ?_
 rintro e w1 ⟨rfl, HK1⟩
 cases v
 all_goals
  go_wp2_with fail
  go_ret
  exact ⟨rfl, Lh (HK1.out.weaken fun _ h => h.2)⟩
end
end
end Go.Proofs.YtlmkokeapbleoaaGreat
