/- Contracts and plain laws that the proof leans on. Condition: as each theorem says. -/
import Derived.Test.YtlmkokeapbleoaaGreatV08
import Derived.Test.YtlmkokeapbleoaaGreatV05
import Derived.Test.YtlmkokeapbleoaaGreatV01
set_option maxRecDepth 100000
set_option maxHeartbeats 64000000
set_option linter.unusedVariables false
set_option linter.unusedSimpArgs false
namespace Go.Proofs.YtlmkokeapbleoaaGreat
open Go.RowKit
theorem infoEndM : (Tryz.prog.info? 57).map (fun i => (i.zero, i.size, i.bytes)) = some (some (.slice none 0 0), 1, 24) := by kernel_rfl
theorem bodies_len {α : Type} (O : List (Item α)) : (bodies O).length = O.length := by unfold bodies; simp
theorem end_mk (W : World) (B : MkB) (V : MkV) (S : LayS) (hM : Hid (Mk B V W)) (hS : Hid (Lays B V S)) (hD : Hid (∀ W', Below B.n W W' → DescW B.d W')) (hO : Hid (MkOk B)) (q : Nat) (wd : List Int) (hq : (q : Int) < B.d.n) (hwd : Hid (ClsOk B.ls wd)) (n c0 c1 c2 c3 : Int) (hpc : Hid (placeC ((q : Int), wd) = [.int .i64 (q : Int), .int .i64 n, .int .i64 c0, .int .i64 c1, .int .i64 c2, .int .i64 c3]))
  (hel : V.es.length ≤ 1048576) (hfl : B.d.fs.length ≤ 1048576) (hout : Hid (∀ f ∈ B.d.fs, f.o.l.length ≤ 1048576)) :
  Calls Tryz.prog 75 #[.pointer (some ⟨B.mb, 0, none⟩), .agg #[.int .i64 (q : Int), .int .i64 n, .int .i64 c0, .int .i64 c1, .int .i64 c2, .int .i64 c3]] W (RetLay B V (putE B S ((q : Int), wd)) (endI B S ((q : Int), wd)) W) := by
 obtain rfl : n = (wd.length : Int) := by
  have h := congrArg (fun l => l[1]?) hpc.out
  simp [placeC] at h; exact h.symm
 have hwc : Hid (wordC wd = [.int .i64 wd.length, .int .i64 c0, .int .i64 c1, .int .i64 c2, .int .i64 c3]) := Lh (by
  have h := congrArg (fun l => l.drop 1) hpc.out
  simpa [placeC, wordC] using h)
 have hqn : q < B.fins.length := by have := hO.out.fn; omega
 obtain ⟨ra, rc, hrow⟩ := hO.out.fins q hq
 have HSE := Lh hS.out.ends
 obtain ⟨wA, hwA⟩ : ∃ z, W.alloc (.cells #[.int .i64 (q : Int), .int .i64 (wd.length : Int), .int .i64 c0, .int .i64 c1, .int .i64 c2, .int .i64 c3] 150) = z := ⟨_, rfl⟩
 have hbA : Below W.heap.size W wA := by rw [← hwA]; exact (Below.refl _ _).alloc (Nat.le_refl _) _
 have hsA : wA.heap.size = W.heap.size + 1 := by rw [← hwA]; simp
 have hxA : wA.heap[W.heap.size]? = some (.cells #[.int .i64 (q : Int), .int .i64 (wd.length : Int), .int .i64 c0, .int .i64 c1, .int .i64 c2, .int .i64 c3] 150 (0, 0)) := by rw [← hwA]; exact heap_alloc_new W _
 have HMA := Lh (hM.out.below hbA)
 have HBA := Lh hbA
 have HSA := Lh hsA
 have HXA := Lh hxA
 have hm8 := HMA.out.clo (i := 8) (by decide) rfl
 obtain ⟨gb, off, xa, xc, xl, hfa, hx, hcx, hix⟩ := (HMA.out.imm.now.fins).1.at_ (j := q) hqn
 have hxe : (xa, xc, xl) = (ra, rc, rowF (B.d.fs.map (·.fr)) q) := by rw [hrow] at hx; exact (Option.some.inj hx).symm
 obtain ⟨rfl, rfl, rfl⟩ : xa = ra ∧ xc = rc ∧ xl = rowF (B.d.fs.map (·.fr)) q := by simpa using hxe
 rw [hfa] at hm8
 obtain ⟨l, hl⟩ : ∃ z, rowF (B.d.fs.map (·.fr)) q = z := ⟨_, rfl⟩
 rw [hl] at hcx hix
 have hll : l.length ≤ 1048576 := by
  have := rowF_len (B.d.fs.map (·.fr)) q
  rw [hl, List.length_map] at this; omega
 have hq1 : (q : Int) < (B.fins.length : Int) := by omega
 have hq0 : (0 : Int) ≤ (q : Int) := by omega
 have hA0 : wA.cell? ⟨W.heap.size, 0, none⟩ = some (.int .i64 (q : Int)) := by simp [World.cell?, hxA]
 have HL := Lh hl
 have HIX : Hid (IntsAt xa l wA) := Lh hix
 clear hbA hsA hxA hxe hrow hx hl hix hfa hqn
 go_enter Tryz.func75, Tryz.ntmps75
 go_wp2_with fail
 (try rw [hwA])
 go_quiet (fail)
 clear hwA hm8 hcx hA0
 go_wp2_with fail
 go_loopw [19] (fun iv wr => ∃ k : Nat, k ≤ l.length ∧ iv = .int .i64 k ∧ Hid (∀ j : Nat, (j : Int) ∈ l.take k → ¬ EndC B ((q : Int), wd) j) ∧ Hid (Below wA.heap.size wA wr)) (fun iv _ => l.length - (intOf iv).toNat)
 case atStart => exact ⟨0, Nat.zero_le _, rfl, Lh (fun j hj => by simp at hj), Lh (below_drewN (Below.refl _ _) _)⟩
 case round =>
 obtain ⟨k, hk, rfl, HR, HB⟩ := hrel
 by_cases hlt : k < l.length
 ·obtain ⟨lb, lo, x, rfl, hx, hxw, hcx⟩ := ((HIX.out.below HB.out).at_ (j := k) hlt)
  have hxm : x ∈ rowF (B.d.fs.map (·.fr)) q := by rw [HL.out]; exact List.mem_of_getElem? hx
  obtain ⟨j, rfl, hj⟩ := rowF_mem.1 hxm
  rw [List.getElem?_map] at hj
  obtain ⟨f, hf, hfr⟩ : ∃ f, B.d.fs[j]? = some f ∧ f.fr = (q : Int) := by
   cases hh : B.d.fs[j]? with
   | none => rw [hh] at hj; cases hj
   | some f => rw [hh] at hj; exact ⟨f, rfl, by simpa using hj⟩
  have hjl : j < B.d.fs.length := (List.getElem?_eq_some_iff.1 hf).1
  have hbr : Below W.heap.size W wr := HBA.out.trans (HB.out.mono (by have := HSA.out; omega))
  have HMR := Lh (hM.out.below hbr)
  obtain ⟨fb, fo, f', hfA, hf', hfw, hd0, hd1, hd2⟩ := (hD.out wr (hbr.mono hM.out.nle)).fins.at_ (j := j) hjl
  obtain rfl : f = f' := by rw [hf] at hf'; exact Option.some.inj hf'
  have hm5 := HMR.out.clo (i := 5) (by decide) rfl
  rw [hfA] at hm5
  have HF := Lh hf
  have HFR := Lh hfr
  have HX := Lh hx
  have HBR := Lh hbr
  have HLT := Lh hlt
  obtain ⟨x0, hx0⟩ : ∃ z, f.fr = z := ⟨_, rfl⟩
  rw [hx0] at hd0
  have HXA2 : Hid (wr.heap[W.heap.size]? = some (.cells #[.int .i64 (q : Int), .int .i64 (wd.length : Int), .int .i64 c0, .int .i64 c1, .int .i64 c2, .int .i64 c3] 150 (0, 0))) := Lh ((HB.out.block _ (by have := HSA.out; omega)).trans HXA.out)
  obtain ⟨xb, hxb⟩ : ∃ z, wr.heap.size = z := ⟨_, rfl⟩
  have hWxb : W.heap.size < xb := by have := HB.out.size; have := HSA.out; omega
  obtain ⟨w2, hw2⟩ : ∃ z, wr.alloc (.cells #[.int .i64 x0, .slice f.ga f.gs.length f.gc, .slice f.o.a f.o.l.length f.o.c] 134) = z := ⟨_, rfl⟩
  have hb2 : Below wr.heap.size wr w2 := by rw [← hw2]; exact (Below.refl _ _).alloc (Nat.le_refl _) _
  have hs2 : w2.heap.size = xb + 1 := by rw [← hw2, ← hxb]; simp
  have hx2 : w2.heap[xb]? = some (.cells #[.int .i64 x0, .slice f.ga f.gs.length f.gc, .slice f.o.a f.o.l.length f.o.c] 134 (0, 0)) := by rw [← hw2, ← hxb]; exact heap_alloc_new wr _
  have hx2w : w2.heap[W.heap.size]? = some (.cells #[.int .i64 (q : Int), .int .i64 (wd.length : Int), .int .i64 c0, .int .i64 c1, .int .i64 c2, .int .i64 c3] 150 (0, 0)) := (hb2.block _ (by omega)).trans HXA2.out
  have hbW2 : Below W.heap.size W w2 := hbr.trans (hb2.mono (by omega))
  have HB2 := Lh hb2
  have HS2 := Lh hs2
  have HX2 := Lh hx2
  have HX2W := Lh hx2w
  have HBW2 := Lh hbW2
  have HWXB := Lh hWxb
  have HXB := Lh hxb
  have HM2 := Lh (hM.out.below hbW2)
  have HK2 := HM2.out.has_st (G := fun W' => LLx f.ga f.gs W') (fun W' hW => ((hD.out W' ((hbW2.trans (hW.mono hbW2.size)).mono hM.out.nle)).fins.it f (List.mem_of_getElem? hf)).2.1)
  have hjl1 : (j : Int) < (B.d.fs.length : Int) := by omega
  have hj0 : (0 : Int) ≤ (j : Int) := by omega
  have hkl : (k : Int) < (l.length : Int) := by omega
  have hk0 : (0 : Int) ≤ (k : Int) := by omega
  have hqc : w2.cell? ⟨W.heap.size, 1, none⟩ = some (.int .i64 (wd.length : Int)) := by simp [World.cell?, hx2w]
  have hq2 : w2.cell? ⟨xb, 1, none⟩ = some (.slice f.ga f.gs.length f.gc) := by simp [World.cell?, hx2]
  clear hb2 hs2 hx2 hx2w hbW2 hbr hWxb hx hxm hj hf hfr hfA hf' hfw hx0 hlt
  by_cases hlen : f.gs.length = wd.length
  case neg =>
   have HNL := Lh hlen
   have HN : Hid (∀ j' : Nat, (j' : Int) ∈ l.take (k + 1) → ¬ EndC B ((q : Int), wd) j') := Lh fun j' hj' he => by
    rw [List.take_add_one, HX.out] at hj'
    rcases List.mem_append.1 hj' with h | h
    ·exact HR.out j' h he
    ·have e : j' = j := by simp at h; omega
     subst e
     obtain ⟨g, hg, _, h2, _⟩ := he
     rw [HF.out] at hg; injection hg with hg; subst hg
     exact HNL.out h2
   have hlen2 : ¬ (f.gs.length : Int) = (wd.length : Int) := by omega
   clear hlen
   go_wp2_with fail
   (try rw [hw2])
   go_roundw
   case rel => exact ⟨k + 1, by have := HLT.out; omega, by go_num, HN, Lh (HB.out.trans (HB2.out.mono HB.out.size))⟩
   case measure => have := HLT.out; simp [intOf]; omega
  have HLEN := Lh hlen
  have hq5 : w2.cell? ⟨W.heap.size, 2, none⟩ = some (.int .i64 c0) ∧ w2.cell? ⟨W.heap.size, 3, none⟩ = some (.int .i64 c1) ∧ w2.cell? ⟨W.heap.size, 4, none⟩ = some (.int .i64 c2) ∧ w2.cell? ⟨W.heap.size, 5, none⟩ = some (.int .i64 c3) := by
   have h2 := HX2W.out
   refine ⟨?_, ?_, ?_, ?_⟩ <;> simp [World.cell?, h2]
  obtain ⟨h52, h53, h54, h55⟩ := hq5
  rw [← hlen] at hqc
  clear hlen
  go_wp2_with fail
  obtain ⟨v, hv⟩ : ∃ v, pB (OnG B.ls (bodies f.gs) wd) = v := ⟨_, rfl⟩
  have hcall := has_st HK2 B.mb (fun _ h => h.1) (fun _ h => h.2) f.gc wd c0 c1 c2 c3 hwc hwd v (Lh hv)
  rw [← HLEN.out] at hcall
  refine hcall.mono ?_
  rintro e w5 ⟨rfl, HK5⟩
  have hb5 : Below w2.heap.size w2 w5 := HK5.out.2
  have hs5 := hb5.size
  have hx5 : w5.heap[xb]? = some (.cells #[.int .i64 x0, .slice f.ga f.gs.length f.gc, .slice f.o.a f.o.l.length f.o.c] 134 (0, 0)) := (hb5.block _ (by have := HS2.out; omega)).trans HX2.out
  have hbW5 : Below W.heap.size W w5 := HBW2.out.trans (hb5.mono HBW2.out.size)
  have HB5 := Lh hb5
  have HX5 := Lh hx5
  have HBW5 := Lh hbW5
  have HV := Lh hv
  have HS5 : Hid (xb < w5.heap.size) := Lh (by have := HS2.out; omega)
  clear hcall hb5 hx5 hbW5 hv hqc hq2 h52 h53 h54 h55 hs5 HK5 HK2
  rcases v with _ | _
  ·have HN : Hid (∀ j' : Nat, (j' : Int) ∈ l.take (k + 1) → ¬ EndC B ((q : Int), wd) j') := Lh fun j' hj' he => by
    rw [List.take_add_one, HX.out] at hj'
    rcases List.mem_append.1 hj' with h | h
    ·exact HR.out j' h he
    ·have e : j' = j := by simp at h; omega
     subst e
     obtain ⟨g, hg, _, _, h2⟩ := he
     rw [HF.out] at hg; injection hg with hg; subst hg
     exact Bool.noConfusion (pB_t HV.out h2)
   go_wp2_with fail
   go_roundw
   case rel => exact ⟨k + 1, by have := HLT.out; omega, by go_num, HN, Lh (HB.out.trans ((HB2.out.trans (HB5.out.mono HB2.out.size)).mono HB.out.size))⟩
   case measure => have := HLT.out; simp [intOf]; omega
  have HEC : Hid (endF B ((q : Int), wd) = some j) := Lh (endF_some ⟨f, HF.out, HFR.out, HLEN.out, Classical.byContradiction fun hn => by have h := pB_f HV.out hn; cases h⟩ fun j' hj' he => by
   obtain ⟨g, hg, hge, _⟩ := id he
   exact HR.out j' (by
    rw [← HL.out]
    exact rowF_ahead (y := k) (j := j) (by rw [HL.out]; exact HX.out) hj' (by rw [List.getElem?_map, hg]; simp [hge])) he)
  have HM5 := Lh (hM.out.below HBW5.out)
  have hj64 : I64 (j : Int) := by have := (List.getElem?_eq_some_iff.1 HF.out).1; unfold I64; omega
  have hlk := idxM_look HM5.out.em j hj64 w5 rfl
  have hm12 := HM5.out.clo (i := 12) (by decide) rfl
  by_cases hm : j ∈ V.es.map (·.1)
  ·have hPE : putE B S ((q : Int), wd) = S := by
    unfold putE; rw [HEC.out]
    show ({ S with ends := putL S.ends j } : LayS) = S
    rw [show putL S.ends j = S.ends by unfold putL; rw [if_pos (by rw [← HSE.out]; exact hm)]]
   have HPE := Lh hPE
   have HMM := Lh hm
   rw [if_pos hm] at hlk
   rw [show decide (j ∈ V.es.map (·.1)) = true by simpa using hm] at hlk
   have HFIN : Hid (RetLay B V (putE B S ((q : Int), wd)) (endI B S ((q : Int), wd)) W (.returned (.int .i64 ((V.es.map (·.1)).idxOf j : Nat))) w5) := Lh (by
    refine ⟨V, ?_, Lh HM5.out, Lh (MkF.of_below HBW5.out hM.out.nle), by rw [HPE.out]; exact hS, rfl⟩
    unfold endI; rw [HEC.out]
    show _ = Ending.returned (.int .i64 (((putL S.ends j).idxOf j : Nat) : Int))
    rw [HSE.out, show putL S.ends j = S.ends by unfold putL; rw [if_pos (by rw [← HSE.out]; exact HMM.out)]])
   clear hm hPE
   go_wp2_with fail
   go_ret
   exact HFIN.out
  have hPE : putE B S ((q : Int), wd) = { S with ends := S.ends ++ [j] } := by
   unfold putE; rw [HEC.out]
   show ({ S with ends := putL S.ends j } : LayS) = _
   rw [show putL S.ends j = S.ends ++ [j] by unfold putL; rw [if_neg (by rw [← HSE.out]; exact hm)]]
  have HPE := Lh hPE
  have HNM := Lh hm
  rw [if_neg hm] at hlk
  rw [show decide (j ∈ V.es.map (·.1)) = false by simpa using hm] at hlk
  have hm271 := HM5.out.chi (j := 2) rfl
  obtain ⟨wB, hrun, hMB, hGB, hSB⟩ := idxM_put HM5.out.em j hj64 hm (by rw [List.length_map]; exact hel)
  rw [List.length_map] at hrun
  have HMB := Lh hMB
  have HGB := Lh hGB
  have HSB := Lh hSB
  have HJ64 := Lh hj64
  clear hm hPE hMB hGB hSB hj64
  go_wp2_with fail
  have hAB : ∀ k, k < w5.heap.size → k ≠ B.eb → wB.heap[k]? = w5.heap[k]? := fun k hk hn => HGB.out.block k hk (fun e => hn (by injection e))
  have HAB := Lh hAB
  have hmn : B.mb ≠ B.eb := cells_ne_map HM5.out.box HM5.out.em
  have hWn : xb ≠ B.eb := fun e => by have := hM.out.em.lt; have := HWXB.out; omega
  have hmx : B.mb ≠ xb := fun e => by have := hM.out.mlt; have := HWXB.out; omega
  obtain ⟨w4, hw4⟩ : ∃ z, wB.drew = z := ⟨_, rfl⟩
  have hh4 : w4.heap = wB.heap := by rw [← hw4]; rfl
  have HH4 := Lh hh4
  have hb4m : w4.heap[B.mb]? = some (.cells (mkCells B V).toArray 143 (0, 0)) := by rw [hh4, hAB _ HM5.out.mlt hmn]; exact HM5.out.box
  have hb4x : w4.heap[xb]? = some (.cells #[.int .i64 x0, .slice f.ga f.gs.length f.gc, .slice f.o.a f.o.l.length f.o.c] 134 (0, 0)) := by rw [hh4, hAB _ HS5.out hWn]; exact HX5.out
  have h271 : ∀ w' : World, w'.heap[B.mb]? = w4.heap[B.mb]? → w'.cell? ⟨B.mb, 271, none⟩ = some (.slice V.ea V.es.length V.ec) := fun w' h => by
   have h2 := h.trans hb4m
   have h3 := mkCells_hi B V hM.out.cl 2
   simp only [World.cell?, h2]
   simpa [mkTail] using h3
  have hx5 : ∀ w' : World, w'.heap[xb]? = w4.heap[xb]? → w'.cell? ⟨xb, 2, none⟩ = some (.slice f.o.a f.o.l.length f.o.c) := fun w' h => by
   have h2 := h.trans hb4x
   simp [World.cell?, h2]
  have hs4 : w4.heap.size = w5.heap.size := by rw [hh4]; exact HSB.out
  have hbel4 : Below B.n W w4 := by
   rw [← hw4]
   exact ((HBW5.out.mono hM.out.nle).grown HGB.out HM5.out.nle (fun k hk => by injection hk with hk; rw [← hk]; exact HM5.out.lo.2.2.2)).drew
  have HBEL4 := Lh hbel4
  have H271 := Lh h271
  have HXX5 := Lh hx5
  have HS4 := Lh hs4
  have HB4M := Lh hb4m
  have hfm := List.mem_of_getElem? HF.out
  have HTO : Hid (TermsAt f.o.a f.o.l w4) := Lh ((hD.out w4 hbel4).fins.it f hfm).2.2
  have hol := hout.out f hfm
  have hop := hO.out.parts.2 f hfm
  have h4a := h271 w4 rfl
  have h4b := hx5 w4 rfl
  have HMN := Lh (And.intro hmn (And.intro hWn hmx))
  clear hAB hh4 hb4m hb4x h271 hx5 hs4 hbel4 hmn hWn hmx hfm
  refine wp_region_Z 14 (by kernel_rfl) (fun V' => V'.cell? ⟨B.mb, 271, none⟩ = some (.slice V.ea V.es.length V.ec) ∧ V'.cell? ⟨xb, 2, none⟩ = some (.slice f.o.a f.o.l.length f.o.c)) (by rw [hw4]; exact ⟨h4a, h4b⟩) (fun hHeld => ?_)
  refine zt (v := ?_) 0 rfl ?_ ?_
  rotate_left
  ·intro w hSw; (try dsimp only at hSw); go_simp; (try with_reducible rfl)
  (try simp only [Act.put, zq1, zq2, zq3, zq4, zq5, zq6])
  refine zt (v := ?_) 1 rfl ?_ ?_
  rotate_left
  ·intro w hSw; (try dsimp only at hSw); go_simp; (try with_reducible rfl)
  (try simp only [Act.put, zq1, zq2, zq3, zq4, zq5, zq6])
  refine zt (v := ?_) 2 rfl ?_ ?_
  rotate_left
  ·intro w hSw; (try dsimp only at hSw); go_simp; (try with_reducible rfl)
  (try simp only [Act.put, zq1, zq2, zq3, zq4, zq5, zq6])
  refine zt (v := ?_) 3 rfl ?_ ?_
  rotate_left
  ·intro w hSw; (try dsimp only at hSw); go_simp; (try with_reducible rfl)
  (try simp only [Act.put, zq1, zq2, zq3, zq4, zq5, zq6])
  refine zt (v := ?_) 4 rfl ?_ ?_
  rotate_left
  ·intro w hSw; (try dsimp only at hSw); go_simp; (try with_reducible rfl)
  (try simp only [Act.put, zq1, zq2, zq3, zq4, zq5, zq6])
  refine zt (v := ?_) 5 rfl ?_ ?_
  rotate_left
  ·intro w hSw; (try dsimp only at hSw); go_simp; (try with_reducible rfl)
  (try simp only [Act.put, zq1, zq2, zq3, zq4, zq5, zq6])
  refine zt (v := ?_) 6 rfl ?_ ?_
  rotate_left
  ·intro w hSw; (try dsimp only at hSw); go_simp; (try with_reducible rfl)
  (try simp only [Act.put, zq1, zq2, zq3, zq4, zq5, zq6])
  refine zt (v := ?_) 7 rfl ?_ ?_
  rotate_left
  ·intro w hSw; (try dsimp only at hSw); go_simp; (try with_reducible rfl)
  (try simp only [Act.put, zq1, zq2, zq3, zq4, zq5, zq6])
  rw [hw4]
  refine zr 8 rfl fun K hK => ?_
  go_simp
  refine (own_st w4 HTO.out hol hop f.o.c).mono ?_
  rintro e w6 ⟨A5, c5, l5, rfl, HL5, HD5, HB6, HF5⟩
  have hB6m : w6.heap[B.mb]? = w4.heap[B.mb]? := HB6.out.block _ (by have := HM5.out.mlt; have := HS4.out; omega)
  have hB6x : w6.heap[xb]? = w4.heap[xb]? := HB6.out.block _ (by have := HS4.out; have := HS5.out; omega)
  have h6a := H271.out w6 hB6m
  have h6b := HXX5.out w6 hB6x
  refine hK.out _ _ (⟨h6a, h6b⟩) (fun hHeld => ?_)
  clear hK K
  (try simp only [Act.put, zq1, zq2, zq3, zq4, zq5, zq6])
  refine zr 9 rfl fun K hK => ?_
  go_simp
  refine hK.out _ _ (⟨cellAl _ h6a, cellAl _ h6b⟩) (fun hHeld => ?_)
  clear hK K
  (try simp only [Act.put, zq1, zq2, zq3, zq4, zq5, zq6])
  have hs6 := HB6.out.size
  have hA6 : ∀ k, k < w5.heap.size → k ≠ B.eb → w6.heap[k]? = w5.heap[k]? := fun k hk hn => (HB6.out.block k (by have := HS4.out; omega)).trans (by rw [HH4.out]; exact HAB.out k hk hn)
  have HA6 := Lh hA6
  have HEL : Hid (w6.ownsRow B.n 57 1 (.slice V.ea V.es.length V.ec) V.es.length (V.es.flatMap fun y => [OutI.v y.2])) := Lh (own_keep HM5.out.el fun k hk => hA6 k (own_ty HM5.out.el hk).2.1 (fun e => own_ne_map HM5.out.el HM5.out.em (e ▸ hk)))
  obtain ⟨i0, hi, hz0, hz1, hz2⟩ := info_parts infoEndM
  have hl40 : V.es.length < 1099511627776 := by omega
  have hn6 : B.n ≤ w6.heap.size := by have := HM5.out.nle; have := HS4.out; omega
  clear hA6
  refine zr 10 rfl fun K hK => ?_
  refine step_pushG rfl _ _ 47 rfl B.n 57 i0 _ 1 24 Tryz.underlying47 hi hz0 hz1 hz2 rfl (by decide) HEL.out rfl [.slice A5 l5.length c5] 57 rfl rfl (by simp [Value.oneCell']) hl40 (by decide) hn6 ?_
  intro A9 c9 w9 HO9 HG9 HN9
  have hpm : ownA V.ea ≠ some B.mb := own_ne_cells HM5.out.el HM5.out.box tyTM
  have hpx : ownA V.ea ≠ some xb := fun e => by have := (own_ty hM.out.el e).2.1; have := HWXB.out; omega
  have hml : B.mb < w6.heap.size := by have := HM5.out.mlt; have := HS4.out; omega
  have hxl : xb < w6.heap.size := by have := HS5.out; have := HS4.out; omega
  have h9m : w9.heap[B.mb]? = w4.heap[B.mb]? := (HG9.out.block _ (by simp; omega) (fun e => hpm e.symm)).trans ((Below.heap_alloc _ _ _ hml).trans hB6m)
  have h9x : w9.heap[xb]? = w4.heap[xb]? := (HG9.out.block _ (by simp; omega) (fun e => hpx e.symm)).trans ((Below.heap_alloc _ _ _ hxl).trans hB6x)
  have h9a := H271.out w9 h9m
  have h9b := HXX5.out w9 h9x
  have h9f : w9.frozen? ⟨B.mb, 271, none⟩ = false := by
   have := h9m.trans HB4M.out
   simp [World.frozen?, this]
  refine hK.out _ _ (⟨h9a, h9b⟩) (fun hHeld => ?_)
  clear hK K
  (try simp only [Act.put, zq1, zq2, zq3, zq4, zq5, zq6])
  refine zr 11 rfl fun K hK => ?_
  go_simp
  refine hK.out _ _ (⟨h9a, h9b⟩) (fun hHeld => ?_)
  clear hK K
  (try simp only [Act.put, zq1, zq2, zq3, zq4, zq5, zq6])
  refine zr 12 rfl fun K hK => ?_
  go_simp
  refine hK.out _ _ (⟨h9a, h9b⟩) (fun hHeld => ?_)
  clear hK K
  (try simp only [Act.put, zq1, zq2, zq3, zq4, zq5, zq6])
  refine zt (v := ?_) 13 rfl ?_ ?_
  rotate_left
  ·intro w hSw; (try dsimp only at hSw); go_simp; (try with_reducible rfl)
  (try simp only [Act.put, zq1, zq2, zq3, zq4, zq5, zq6])
  refine wpAnyZ_last (i := 14) rfl (by kernel_rfl) (by kernel_rfl) rfl (fun K hK => ?_)
  go_simp
  refine hK.out _ _ ?_
  obtain ⟨w10, hw10⟩ : ∃ z, w9.setCell ⟨B.mb, 271, none⟩ (.slice A9 (V.es.length + 1) c9) = z := ⟨_, rfl⟩
  have hst : ∀ k, k ≠ B.mb → w10.heap[k]? = w9.heap[k]? := fun k hk => by rw [← hw10]; exact heap_setCell_other _ _ _ _ hk
  have hs9 := HG9.out.size
  simp at hs9
  have hs10 : w10.heap.size = w9.heap.size := by rw [← hw10]; simp
  have hlen : (V.es ++ [(j, (⟨A5, c5, l5⟩ : OutI))]).length = V.es.length + 1 := by simp
  have hnewA : ∀ g, ownA A9 = some g → ownA V.ea = some g ∨ w6.heap.size + 1 ≤ g := fun g hg => by
   rcases HN9.out with e2 | ⟨q, e2, hq⟩
   ·rw [e2] at hg; exact .inl hg
   ·rw [e2] at hg; injection hg with hg; right; omega
  have hchain : ∀ k, k < w5.heap.size → k ≠ B.mb → k ≠ B.eb → ownA V.ea ≠ some k → w10.heap[k]? = w5.heap[k]? := fun k hk h1 h2 h3 =>
   (hst k h1).trans ((HG9.out.block k (by have := HS4.out; simp; omega) (fun e => h3 e.symm)).trans ((Below.heap_alloc _ _ _ (by have := HS4.out; omega)).trans (HA6.out k hk h2)))
  have hMk := HM5.out.afterEnd (W3 := w10) (a := A9) (c := c9) (x := (j, ⟨A5, c5, l5⟩)) (by have := HS4.out; omega) hchain
   (by
    rw [← hw10, heap_setCell_same w9 B.mb 271 _ _ _ (h9m.trans HB4M.out), List.setIfInBounds_toArray, ← hlen, mkCells_set271 B V hM.out.cl]; rfl)
   (by
    rw [hlen, List.flatMap_append]
    have h := own_keep HO9.out (w' := w10) (fun k hk => hst k (fun e => by
     rcases hnewA k hk with e2 | e2
     ·exact hpm (e ▸ e2)
     ·omega))
    simpa [OutI.v] using h)
   (by
    rw [List.map_append]
    refine HMB.out.same ((hst _ HMN.out.1.symm).trans ((HG9.out.block _ (by have := HM5.out.em.lt; have := HS4.out; simp; omega) (fun e => own_ne_map HM5.out.el HM5.out.em e.symm)).trans ((Below.heap_alloc _ _ _ (by have := HM5.out.em.lt; have := HS4.out; omega)).trans ((HB6.out.block _ (by have := HM5.out.em.lt; have := HS4.out; omega)).trans (by rw [HH4.out]))))))
   (fun g hg => by
    rcases hnewA g hg with e2 | e2
    ·exact .inl e2
    ·right; have := HS4.out; omega)
   (fun U hU => HD5.out U fun k hk hl => by
    have hfree : ¬ Mut B (withE V A9 c9 (V.es ++ [(j, ⟨A5, c5, l5⟩)])) k := fun hm => by
     have hs4 := HS4.out
     rcases hm with e | e | e | e | e | e | e | e
     ·have := HM5.out.mlt; omega
     ·have := HM5.out.num.lt; omega
     ·have := HM5.out.am.lt; omega
     ·have := HM5.out.em.lt; omega
     ·have := (own_ty HM5.out.pl e).2.1; omega
     ·have := (own_ty HM5.out.al e).2.1; omega
     ·rcases hnewA k e with e2 | e2
      ·have := (own_ty HM5.out.el e2).2.1; omega
      ·omega
     ·have := (own_ty HM5.out.nl e).2.1; omega
    refine (hU k ⟨hfree, fun ha => by have := HM5.out.avl k ha; have := HS4.out; omega⟩ (by omega)).trans ((hst k (fun e => hfree (.inl e))).trans ((HG9.out.block k (by simp; omega) (fun e => ?_)).trans (Below.heap_alloc _ _ _ hl)))
    have := (own_ty HM5.out.el e.symm).2.1
    have := HS4.out
    omega)
  have HFIN : Hid (RetLay B V (putE B S ((q : Int), wd)) (endI B S ((q : Int), wd)) W (.returned (.int .i64 (V.es.length : Int))) w10) := Lh (by
   refine ⟨_, ?_, Lh hMk.1, Lh ⟨?_, fun k hk hn => ?_, fun k hk hm => hMk.2 k (by have := HBW5.out.size; omega) hm⟩, Lh ?_, rfl⟩
   ·unfold endI; rw [HEC.out]
    show _ = Ending.returned (.int .i64 (((putL S.ends j).idxOf j : Nat) : Int))
    have hni : j ∉ S.ends := by rw [← HSE.out]; exact HNM.out
    have hnd : (S.ends ++ [j]).Nodup := by
     rw [← HSE.out]
     obtain ⟨_, _, _, _, h3, _⟩ := hM.out.em
     rw [idxM_fst] at h3
     exact List.nodup_append.2 ⟨nodup_of_map _ h3, by simp, fun a ha b hb e => HNM.out (by rw [List.mem_singleton] at hb; rw [← hb, ← e]; exact ha)⟩
    rw [show putL S.ends j = S.ends ++ [j] by unfold putL; rw [if_neg hni], idxOf_at (i := S.ends.length) hnd (by simp), ← HSE.out, List.length_map]
   ·have h1 : Below B.n W w6 := HBEL4.out.trans (HB6.out.mono (by have := HM5.out.nle; have := HS4.out; omega))
    have h2 := ((h1.alloc hn6 (.cells [.slice A5 l5.length c5].toArray 57)).grown HG9.out (by simp; omega) (fun k hk => (own_ty HM5.out.el hk).1)).setCell (p := ⟨B.mb, 271, none⟩) hM.out.lo.1 (.slice A9 (V.es.length + 1) c9)
    rw [hw10] at h2
    exact h2
   ·exact (hchain k (by have := HBW5.out.size; omega) (fun e => hn (.inl e)) (fun e => hn (.inr (.inr (.inr (.inl e))))) (fun e => hn (.inr (.inr (.inr (.inr (.inr (.inr (.inl e)))))))) ).trans (HBW5.out.block k hk)
   ·refine ⟨?_, ?_, ?_, ?_, ?_⟩
    ·rw [HPE.out]; exact hS.out.ps
    ·rw [HPE.out]; exact hS.out.acts
    ·rw [HPE.out]
     show List.map (fun (x : Nat × OutI) => x.1) (V.es ++ [(j, ⟨A5, c5, l5⟩)]) = S.ends ++ [j]
     rw [List.map_append, HSE.out]; rfl
    ·exact hS.out.aok
    ·intro x hx
     rcases List.mem_append.1 hx with hx | hx
     ·exact hS.out.eok x hx
     ·rw [List.mem_singleton] at hx
      subst hx
      refine ⟨f, HF.out, ?_⟩
      show l5.map TermI.L = f.o.l.map TermI.L
      rw [HL5.out])
  clear hHeld hK K h9m h9x h9a h9b h9f hpm hpx hml hst hs9 hs10 hnewA hchain hMk hB6m hB6x h6a h6b hw4 h4a h4b
  (try simp only [Act.put, zq1, zq2, zq3, zq4, zq5, zq6])
  go_wp2_with fail
  (try rw [hw10])
  go_ret
  exact HFIN.out
 ·obtain rfl : k = l.length := by omega
  have hd : decide (l.length < l.length) = false := by simp
  have HNO : Hid (endF B ((q : Int), wd) = none) := Lh (endF_none fun j hj => by
   obtain ⟨f, hf, he, _⟩ := id hj
   refine HR.out j ?_ hj
   rw [List.take_length, ← HL.out]
   exact rowF_mem.2 ⟨j, rfl, by rw [List.getElem?_map, hf]; simp [he]⟩)
  have HFIN : Hid (RetLay B V (putE B S ((q : Int), wd)) (endI B S ((q : Int), wd)) W (.returned (.int .i64 (-1))) wr) := Lh (by
   have hb : Below W.heap.size W wr := HBA.out.trans (HB.out.mono (by have := HSA.out; omega))
   refine ⟨V, ?_, Lh (hM.out.below hb), Lh (MkF.of_below hb hM.out.nle), Lh ?_, rfl⟩
   ·unfold endI; rw [HNO.out]
   ·unfold putE; rw [HNO.out]; exact hS.out)
  go_wp2_with fail
  go_ret
  exact HFIN.out
def RuC (B : MkB) (q : Int) (w : List Int) (j : Nat) : Prop := ∃ r, B.d.rs[j]? = some r ∧ r.fr = q ∧ w.length ≤ r.gs.length ∧ OnG B.ls (bodies r.gs) w
def RuE (B : MkB) (q : Int) (w : List Int) (j : Nat) : Prop := ∃ r, B.d.rs[j]? = some r ∧ r.fr = q ∧ r.gs.length = w.length ∧ OnG B.ls (bodies r.gs) w
def FiC (B : MkB) (q : Int) (w : List Int) (j : Nat) : Prop := ∃ r, B.d.fs[j]? = some r ∧ r.fr = q ∧ w.length ≤ r.gs.length ∧ OnG B.ls (bodies r.gs) w
noncomputable def nextF (B : MkB) (q : Int) (w : List Int) : Option Nat := (List.range B.d.rs.length).find? fun j => pB (RuE B q w j)
noncomputable def goesF (B : MkB) (q : Int) (w : List Int) : Bool := pB ((∃ j, RuC B q w j) ∨ ∃ j, FiC B q w j)
theorem nextF_some {B : MkB} {q : Int} {w : List Int} {j : Nat} (h : RuE B q w j) (hno : ∀ j' < j, ¬ RuE B q w j') : nextF B q w = some j := by
 obtain ⟨f, hf, _⟩ := id h
 exact find_range (List.getElem?_eq_some_iff.1 hf).1 (pB_true h) fun j' hj' => pB_false (hno j' hj')
theorem nextF_none {B : MkB} {q : Int} {w : List Int} (hno : ∀ j, ¬ RuE B q w j) : nextF B q w = none := by
 unfold nextF
 rw [List.find?_eq_none]
 intro j _
 rw [pB_false (hno j)]; simp
noncomputable def nextS (B : MkB) (S : LayS) (q : Int) (wd : List Int) (c : Int) : LayS × Int :=
 if wd.length = 4 then (S, -1)
 else match nextF B q (wd ++ [c]) with
  | some j => (putA B S j, -2 - ((putA B S j).acts.idxOf j : Nat))
  | none => if goesF B q (wd ++ [c]) = true then ({ S with ps := putL S.ps (q, wd ++ [c]) }, ((putL S.ps (q, wd ++ [c])).idxOf (q, wd ++ [c]) : Nat)) else (S, -1)
def nextC6 (q : Int) (m c0 c1 c2 c3 : Int) : List Value := [.int .i64 q, .int .i64 m, .int .i64 c0, .int .i64 c1, .int .i64 c2, .int .i64 c3]
theorem place_grow (q : Int) (wd : List Int) (c : Int) (hl : wd.length < 4) (c0 c1 c2 c3 : Int) (h : placeC (q, wd) = nextC6 q wd.length c0 c1 c2 c3) :
  ∃ d0 d1 d2 d3, placeC (q, wd ++ [c]) = nextC6 q ((wd.length : Int) + 1) d0 d1 d2 d3 ∧ ((nextC6 q wd.length c0 c1 c2 c3).set (2 + wd.length) (.int .i64 c)).set 1 (.int .i64 ((wd.length : Int) + 1)) = nextC6 q ((wd.length : Int) + 1) d0 d1 d2 d3 := by
 match wd, hl, h with
 | [], _, h => simp [placeC, nextC6] at h ⊢; obtain ⟨rfl, rfl, rfl, rfl⟩ := h; exact ⟨_, _, _, _, ⟨rfl, rfl, rfl, rfl⟩, rfl, rfl, rfl, rfl⟩
 | [a], _, h => simp [placeC, nextC6] at h ⊢; obtain ⟨rfl, rfl, rfl, rfl⟩ := h; exact ⟨_, _, _, _, ⟨rfl, rfl, rfl, rfl⟩, rfl, rfl, rfl, rfl⟩
 | [a, b], _, h => simp [placeC, nextC6] at h ⊢; obtain ⟨rfl, rfl, rfl, rfl⟩ := h; exact ⟨_, _, _, _, ⟨rfl, rfl, rfl, rfl⟩, rfl, rfl, rfl, rfl⟩
 | [a, b, d], _, h => simp [placeC, nextC6] at h ⊢; obtain ⟨rfl, rfl, rfl, rfl⟩ := h; exact ⟨_, _, _, _, ⟨rfl, rfl, rfl, rfl⟩, rfl, rfl, rfl, rfl⟩
theorem pB_or {p q : Prop} : pB (p ∨ q) = (pB p || pB q) := by
 by_cases hp : p
 ·rw [pB_true (.inl hp), pB_true hp]; rfl
 ·rw [pB_false hp, Bool.false_or]; exact pB_congr ⟨fun h => h.resolve_left hp, .inr⟩
theorem next_mk (W : World) (B : MkB) (V : MkV) (S : LayS) (hM : Hid (Mk B V W)) (hS : Hid (Lays B V S)) (hD : Hid (∀ W', Below B.n W W' → DescW B.d W')) (hO : Hid (MkOk B)) (q : Nat) (wd : List Int) (c : Int) (hq : (q : Int) < B.d.n) (hw4 : wd.length ≤ 4) (hwd : Hid (wd.length < 4 → ClsOk B.ls (wd ++ [c]) ∧ PlaceOk ((q : Int), wd ++ [c]))) (n c0 c1 c2 c3 : Int) (hpc : Hid (placeC ((q : Int), wd) = [.int .i64 (q : Int), .int .i64 n, .int .i64 c0, .int .i64 c1, .int .i64 c2, .int .i64 c3]))
  (hpl : V.ps.length ≤ 1000000) (hal : V.acs.length ≤ 1048576) (hfl : B.d.fs.length ≤ 1048576) (hrl : B.d.rs.length ≤ 1048576) (hout : Hid (∀ r ∈ B.d.rs, r.o.l.length ≤ 1048576)) :
  Calls Tryz.prog 76 #[.pointer (some ⟨B.mb, 0, none⟩), .agg #[.int .i64 (q : Int), .int .i64 n, .int .i64 c0, .int .i64 c1, .int .i64 c2, .int .i64 c3], .int .i64 c] W (RetLay B V (nextS B S q wd c).1 (nextS B S q wd c).2 W) := by
 obtain rfl : n = (wd.length : Int) := by
  have h := congrArg (fun l => l[1]?) hpc.out
  simp [placeC] at h; exact h.symm
 obtain ⟨wA, hwA⟩ : ∃ z, W.alloc (.cells #[.int .i64 (q : Int), .int .i64 (wd.length : Int), .int .i64 c0, .int .i64 c1, .int .i64 c2, .int .i64 c3] 150) = z := ⟨_, rfl⟩
 have hbA : Below W.heap.size W wA := by rw [← hwA]; exact (Below.refl _ _).alloc (Nat.le_refl _) _
 have hsA : wA.heap.size = W.heap.size + 1 := by rw [← hwA]; simp
 have hxA : wA.heap[W.heap.size]? = some (.cells #[.int .i64 (q : Int), .int .i64 (wd.length : Int), .int .i64 c0, .int .i64 c1, .int .i64 c2, .int .i64 c3] 150 (0, 0)) := by rw [← hwA]; exact heap_alloc_new W _
 have HBA := Lh hbA
 have HSA := Lh hsA
 have HXA := Lh hxA
 have hA1 : wA.cell? ⟨W.heap.size, 1, none⟩ = some (.int .i64 (wd.length : Int)) := by simp [World.cell?, hxA]
 by_cases h4 : wd.length = 4
 ·have HFIN : Hid (RetLay B V (nextS B S q wd c).1 (nextS B S q wd c).2 W (.returned (.int .i64 (-1))) wA) := Lh (by
   have he : nextS B S q wd c = (S, -1) := by unfold nextS; rw [if_pos h4]
   rw [he]
   exact ⟨V, rfl, Lh (hM.out.below hbA), Lh (MkF.of_below hbA hM.out.nle), hS, rfl⟩)
  rw [h4] at hA1
  clear hbA hsA hxA h4
  go_enter Tryz.func76, Tryz.ntmps76
  go_wp2_with fail
  go_ret
  exact HFIN.out
 have hlt4 : wd.length < 4 := by omega
 obtain ⟨d0, d1, d2, d3, hd, hset⟩ := place_grow q wd c hlt4 c0 c1 c2 c3 hpc.out
 have HD6 := Lh hd
 have HSET := Lh hset
 have hn4 : ((wd.length : Int) == 4) = false := by simp; omega
 have hn4' : (wd.length : Int) < 4 := by omega
 have hn0 : (0 : Int) ≤ (wd.length : Int) := by omega
 have hcl : wA.cell? ⟨W.heap.size, 2 + wd.length, none⟩ ≠ none := by
  simp [World.cell?, hxA]; omega
 obtain ⟨vc, hvc⟩ := Option.ne_none_iff_exists'.1 hcl
 have hfz : wA.frozen? ⟨W.heap.size, 2 + wd.length, none⟩ = false := by simp [World.frozen?, hxA]
 have hfz2 : (wA.setCell ⟨W.heap.size, 2 + wd.length, none⟩ (.int .i64 c)).frozen? ⟨W.heap.size, 1, none⟩ = false := by
  have h := heap_setCell_same wA W.heap.size (2 + wd.length) _ _ (.int .i64 c) hxA
  simp [World.frozen?, h]
 have HW4 := Lh h4
 have HLT4 := Lh hlt4
 obtain ⟨wC, hwC⟩ : ∃ z, (wA.setCell ⟨W.heap.size, 2 + wd.length, none⟩ (.int .i64 c)).setCell ⟨W.heap.size, 1, none⟩ (.int .i64 ((wd.length : Int) + 1)) = z := ⟨_, rfl⟩
 have hbC : Below W.heap.size W wC := by rw [← hwC]; exact (hbA.setCell (Nat.le_refl _) _).setCell (Nat.le_refl _) _
 have hsC : wC.heap.size = W.heap.size + 1 := by rw [← hwC]; simp [hsA]
 have hxC : wC.heap[W.heap.size]? = some (.cells (nextC6 q ((wd.length : Int) + 1) d0 d1 d2 d3).toArray 150 (0, 0)) := by
  rw [← hset, ← hwC]
  have h := heap_setCell_same wA W.heap.size (2 + wd.length) _ _ (.int .i64 c) hxA
  rw [heap_setCell_same _ W.heap.size 1 _ _ _ h]
  simp [nextC6]
 have HBC := Lh hbC
 have HSC := Lh hsC
 have HXC := Lh hxC
 have HWC := Lh hwC
 clear hbA hsA hxA h4 hd hset hcl hbC hsC hxC hwC
 go_enter Tryz.func76, Tryz.ntmps76
 go_wp2_with fail
 rw [HWC.out]
 clear hA1 hvc hfz hfz2 hn4 hn4' HWC HSET
 obtain ⟨hqb, hwd5⟩ := hwd.out HLT4.out
 obtain ⟨w, hw⟩ : ∃ z, wd ++ [c] = z := ⟨_, rfl⟩
 have hwl : w.length = wd.length + 1 := by rw [← hw]; simp
 rw [hw] at hqb hwd5
 have HWD := Lh hqb
 have HPO := Lh hwd5
 have HMC := Lh (hM.out.below HBC.out)
 have hwI : (wd.length : Int) + 1 = (w.length : Int) := by omega
 have HXW : Hid (wC.heap[W.heap.size]? = some (.cells #[.int .i64 (q : Int), .int .i64 (w.length : Int), .int .i64 d0, .int .i64 d1, .int .i64 d2, .int .i64 d3] 150 (0, 0))) := Lh (by rw [HXC.out, hwI]; rfl)
 have HPC : Hid (placeC ((q : Int), w) = [.int .i64 (q : Int), .int .i64 w.length, .int .i64 d0, .int .i64 d1, .int .i64 d2, .int .i64 d3]) := Lh (by rw [← hwI, ← hw]; exact HD6.out)
 have hwc : Hid (wordC w = [.int .i64 w.length, .int .i64 d0, .int .i64 d1, .int .i64 d2, .int .i64 d3]) := Lh (by
  have h := congrArg (fun l => l.drop 1) HPC.out
  simpa [placeC, wordC] using h)
 have HWE := Lh hw
 have hrn : q < B.rows.length := by have := hO.out.rn; omega
 obtain ⟨ra, rc, hrow⟩ := hO.out.rows q hq
 have hm7 := HMC.out.clo (i := 7) (by decide) rfl
 obtain ⟨gb, off, xa, xc, xl, hfa, hx, hcx, hix⟩ := (HMC.out.imm.now.rows).1.at_ (j := q) hrn
 have hxe : (xa, xc, xl) = (ra, rc, rowF (B.d.rs.map (·.fr)) q) := by rw [hrow] at hx; exact (Option.some.inj hx).symm
 obtain ⟨rfl, rfl, rfl⟩ : xa = ra ∧ xc = rc ∧ xl = rowF (B.d.rs.map (·.fr)) q := by simpa using hxe
 rw [hfa] at hm7
 obtain ⟨l, hl⟩ : ∃ z, rowF (B.d.rs.map (·.fr)) q = z := ⟨_, rfl⟩
 rw [hl] at hcx hix
 have hll : l.length ≤ 1048576 := by
  have := rowF_len (B.d.rs.map (·.fr)) q
  rw [hl, List.length_map] at this; omega
 have hq1 : (q : Int) < (B.rows.length : Int) := by omega
 have hq0 : (0 : Int) ≤ (q : Int) := by omega
 have hA0 : wC.cell? ⟨W.heap.size, 0, none⟩ = some (.int .i64 (q : Int)) := by simp [World.cell?, HXW.out]
 have HL := Lh hl
 have HIX : Hid (IntsAt xa l wC) := Lh hix
 have HWL := Lh hwl
 clear hwl hw hwI hqb hwd5 hxe hrow hx hl hix hfa hrn HXC HD6
 go_quiet (fail)
 clear hm7 hcx hA0
 go_wp2_with fail
 go_loopw [7, 40] (fun gv iv wr => ∃ (k : Nat) (g : Bool), k ≤ l.length ∧ iv = .int .i64 k ∧ gv = .bool g ∧ Hid (pB (∃ j : Nat, (j : Int) ∈ l.take k ∧ RuC B q w j) = g) ∧ Hid (∀ j : Nat, (j : Int) ∈ l.take k → ¬ RuE B q w j) ∧ Hid (Below wC.heap.size wC wr)) (fun _ iv _ => l.length - (intOf iv).toNat)
 case atStart => exact ⟨0, false, Nat.zero_le _, rfl, rfl, Lh (pB_false (by rintro ⟨j, hj, _⟩; simp at hj)), Lh (fun j hj => by simp at hj), Lh (below_drewN (Below.refl _ _) _)⟩
 case round =>
 obtain ⟨k, g, hk, rfl, rfl, HG, HR, HB⟩ := hrel
 by_cases hlt : k < l.length
 ·obtain ⟨lb, lo, x, rfl, hx, hxw, hcx⟩ := ((HIX.out.below HB.out).at_ (j := k) hlt)
  have hxm : x ∈ rowF (B.d.rs.map (·.fr)) q := by rw [HL.out]; exact List.mem_of_getElem? hx
  obtain ⟨j, rfl, hj⟩ := rowF_mem.1 hxm
  rw [List.getElem?_map] at hj
  obtain ⟨f, hf, hfr⟩ : ∃ f, B.d.rs[j]? = some f ∧ f.fr = (q : Int) := by
   cases hh : B.d.rs[j]? with
   | none => rw [hh] at hj; cases hj
   | some f => rw [hh] at hj; exact ⟨f, rfl, by simpa using hj⟩
  have hjl : j < B.d.rs.length := (List.getElem?_eq_some_iff.1 hf).1
  have hbr : Below W.heap.size W wr := HBC.out.trans (HB.out.mono (by have := HSC.out; omega))
  have HMR := Lh (hM.out.below hbr)
  obtain ⟨fb, fo, f', hfA, hf', hfw, hd0, hd1, hd2, hd3, hd4⟩ := (hD.out wr (hbr.mono hM.out.nle)).rules.at_ (j := j) hjl
  obtain rfl : f = f' := by rw [hf] at hf'; exact Option.some.inj hf'
  have hm4 := HMR.out.clo (i := 4) (by decide) rfl
  rw [hfA] at hm4
  have HF := Lh hf
  have HFR := Lh hfr
  have HX := Lh hx
  have HBR := Lh hbr
  have HLT := Lh hlt
  obtain ⟨x0, hx0⟩ : ∃ z, f.fr = z := ⟨_, rfl⟩
  rw [hx0] at hd0
  have HXA2 : Hid (wr.heap[W.heap.size]? = some (.cells #[.int .i64 (q : Int), .int .i64 (w.length : Int), .int .i64 d0, .int .i64 d1, .int .i64 d2, .int .i64 d3] 150 (0, 0))) := Lh ((HB.out.block _ (by have := HSC.out; omega)).trans HXW.out)
  obtain ⟨xb, hxb⟩ : ∃ z, wr.heap.size = z := ⟨_, rfl⟩
  have hWxb : W.heap.size < xb := by have := HB.out.size; have := HSC.out; omega
  obtain ⟨w2, hw2⟩ : ∃ z, wr.alloc (.cells #[.int .i64 x0, .int .i64 f.dst, .slice f.ga f.gs.length f.gc, .int .i64 f.e, .slice f.o.a f.o.l.length f.o.c] 102) = z := ⟨_, rfl⟩
  have hb2 : Below wr.heap.size wr w2 := by rw [← hw2]; exact (Below.refl _ _).alloc (Nat.le_refl _) _
  have hs2 : w2.heap.size = xb + 1 := by rw [← hw2, ← hxb]; simp
  have hx2 : w2.heap[xb]? = some (.cells #[.int .i64 x0, .int .i64 f.dst, .slice f.ga f.gs.length f.gc, .int .i64 f.e, .slice f.o.a f.o.l.length f.o.c] 102 (0, 0)) := by rw [← hw2, ← hxb]; exact heap_alloc_new wr _
  have hx2w : w2.heap[W.heap.size]? = some (.cells #[.int .i64 (q : Int), .int .i64 (w.length : Int), .int .i64 d0, .int .i64 d1, .int .i64 d2, .int .i64 d3] 150 (0, 0)) := (hb2.block _ (by omega)).trans HXA2.out
  have hbW2 : Below W.heap.size W w2 := hbr.trans (hb2.mono (by omega))
  have HB2 := Lh hb2
  have HS2 := Lh hs2
  have HX2 := Lh hx2
  have HX2W := Lh hx2w
  have HBW2 := Lh hbW2
  have HWXB := Lh hWxb
  have HXB := Lh hxb
  have HM2 := Lh (hM.out.below hbW2)
  have HK2 := HM2.out.has_st (G := fun W' => LLx f.ga f.gs W') (fun W' hW => ((hD.out W' ((hbW2.trans (hW.mono hbW2.size)).mono hM.out.nle)).rules.it f (List.mem_of_getElem? hf)).2.1)
  have hjl1 : (j : Int) < (B.d.rs.length : Int) := by omega
  have hj0 : (0 : Int) ≤ (j : Int) := by omega
  have hkl : (k : Int) < (l.length : Int) := by omega
  have hk0 : (0 : Int) ≤ (k : Int) := by omega
  have h51 : w2.cell? ⟨W.heap.size, 1, none⟩ = some (.int .i64 (w.length : Int)) := by simp [World.cell?, hx2w]
  have hq2 : w2.cell? ⟨xb, 2, none⟩ = some (.slice f.ga f.gs.length f.gc) := by simp [World.cell?, hx2]
  have h52 : w2.cell? ⟨W.heap.size, 2, none⟩ = some (.int .i64 d0) := by simp [World.cell?, hx2w]
  have h53 : w2.cell? ⟨W.heap.size, 3, none⟩ = some (.int .i64 d1) := by simp [World.cell?, hx2w]
  have h54 : w2.cell? ⟨W.heap.size, 4, none⟩ = some (.int .i64 d2) := by simp [World.cell?, hx2w]
  have h55 : w2.cell? ⟨W.heap.size, 5, none⟩ = some (.int .i64 d3) := by simp [World.cell?, hx2w]
  have HSTEP : Hid (∀ G, (RuC B q w j → G) → pB ((∃ j' : Nat, (j' : Int) ∈ l.take k ∧ RuC B q w j') ∨ G) = pB ((∃ j' : Nat, (j' : Int) ∈ l.take (k + 1) ∧ RuC B q w j') ∨ G)) := Lh fun G hG => pB_congr (by
   rw [List.take_add_one, hx]
   constructor
   ·rintro (⟨j', h1, h2⟩ | h)
    ·exact .inl ⟨j', List.mem_append.2 (.inl h1), h2⟩
    ·exact .inr h
   ·rintro (⟨j', h1, h2⟩ | h)
    ·rcases List.mem_append.1 h1 with h1 | h1
     ·exact .inl ⟨j', h1, h2⟩
     ·have e : j' = j := by simp at h1; omega
      subst e
      exact .inr (hG h2)
    ·exact .inr h)
  have HNEW : Hid (¬ RuE B q w j → ∀ j' : Nat, (j' : Int) ∈ l.take (k + 1) → ¬ RuE B q w j') := Lh fun hn j' hj' he => by
   rw [List.take_add_one, HX.out] at hj'
   rcases List.mem_append.1 hj' with h | h
   ·exact HR.out j' h he
   ·have e : j' = j := by simp at h; omega
    subst e
    exact hn he
  have HRU : Hid (RuC B q w j ↔ w.length ≤ f.gs.length ∧ OnG B.ls (bodies f.gs) w) := Lh ⟨fun ⟨r, h1, _, h3, h4⟩ => by rw [hf] at h1; injection h1 with h1; subst h1; exact ⟨h3, h4⟩, fun h => ⟨f, hf, hfr, h.1, h.2⟩⟩
  have HRE : Hid (RuE B q w j ↔ f.gs.length = w.length ∧ OnG B.ls (bodies f.gs) w) := Lh ⟨fun ⟨r, h1, _, h3, h4⟩ => by rw [hf] at h1; injection h1 with h1; subst h1; exact ⟨h3, h4⟩, fun h => ⟨f, hf, hfr, h.1, h.2⟩⟩
  clear hb2 hs2 hx2 hx2w hbW2 hbr hWxb hx hxm hj hf hfr hfA hf' hfw hx0 hlt
  by_cases hlen : f.gs.length < w.length
  case pos =>
   have HG2 : Hid (pB (∃ j' : Nat, (j' : Int) ∈ l.take (k + 1) ∧ RuC B q w j') = g) := Lh (by
    have h := HSTEP.out False (fun h => by have := (HRU.out.1 h).1; omega)
    rw [or_false, or_false, HG.out] at h
    exact h.symm)
   have HN := Lh (HNEW.out (fun h => by have := (HRE.out.1 h).1; omega))
   have hlen2 : (f.gs.length : Int) < (w.length : Int) := by omega
   have hlen3 : decide ((f.gs.length : Int) < (w.length : Int)) = true := by simp; omega
   go_wp2_with fail
   (try rw [hw2])
   go_roundw
   case rel => exact ⟨k + 1, g, by have := HLT.out; omega, by go_num, rfl, HG2, HN, Lh (HB.out.trans (HB2.out.mono HB.out.size))⟩
   case measure => have := HLT.out; simp [intOf]; omega
  have HLEN := Lh hlen
  have hlen2 : decide ((f.gs.length : Int) < (w.length : Int)) = false := by simp; omega
  have hlen3 : decide (f.gs.length < w.length) = false := by simp; omega
  clear hlen
  go_wp2_with fail
  obtain ⟨v, hv⟩ : ∃ v, pB (OnG B.ls (bodies f.gs) w) = v := ⟨_, rfl⟩
  refine (has_st HK2 B.mb (fun _ h => h.1) (fun _ h => h.2) f.gc w d0 d1 d2 d3 hwc HWD v (Lh hv)).mono ?_
  rintro e w5 ⟨rfl, HK5⟩
  have hb5 : Below w2.heap.size w2 w5 := HK5.out.2
  have HB5 := Lh hb5
  have HBN : Hid (Below wC.heap.size wC w5) := Lh (HB.out.trans ((HB2.out.trans (HB5.out.mono HB2.out.size)).mono HB.out.size))
  have HV := Lh hv
  clear hb5 hv HK5 HK2
  rcases v with _ | _
  ·have hno : ¬ OnG B.ls (bodies f.gs) w := fun h => Bool.noConfusion (pB_t HV.out h)
   have HG2 : Hid (pB (∃ j' : Nat, (j' : Int) ∈ l.take (k + 1) ∧ RuC B q w j') = g) := Lh (by
    have h := HSTEP.out False (fun h => hno (HRU.out.1 h).2)
    rw [or_false, or_false, HG.out] at h
    exact h.symm)
   have HN := Lh (HNEW.out (fun h => hno (HRE.out.1 h).2))
   clear hno
   go_wp2_with fail
   go_roundw
   case rel => exact ⟨k + 1, g, by have := HLT.out; omega, by go_num, rfl, HG2, HN, HBN⟩
   case measure => have := HLT.out; simp [intOf]; omega
  have hon : OnG B.ls (bodies f.gs) w := Classical.byContradiction fun hn => by have h := pB_f HV.out hn; cases h
  have HON := Lh hon
  have hx5 : w5.heap[xb]? = some (.cells #[.int .i64 x0, .int .i64 f.dst, .slice f.ga f.gs.length f.gc, .int .i64 f.e, .slice f.o.a f.o.l.length f.o.c] 102 (0, 0)) := (HB5.out.block _ (by have := HS2.out; omega)).trans HX2.out
  have hx5w := (HB5.out.block W.heap.size (by have := HS2.out; have := HWXB.out; omega)).trans HX2W.out
  have h61 : w5.cell? ⟨W.heap.size, 1, none⟩ = some (.int .i64 (w.length : Int)) := by simp [World.cell?, hx5w]
  have h62 : w5.cell? ⟨xb, 2, none⟩ = some (.slice f.ga f.gs.length f.gc) := by simp [World.cell?, hx5]
  have HBW5 : Hid (Below W.heap.size W w5) := Lh (HBW2.out.trans (HB5.out.mono HBW2.out.size))
  clear hx5 hx5w h51 h52 h53 h54 h55 hq2 hon
  by_cases heq : f.gs.length = w.length
  ·have HNX : Hid (nextS B S q wd c = (putA B S j, -2 - (((putA B S j).acts.idxOf j : Nat) : Int))) := Lh (by
    unfold nextS
    rw [if_neg HW4.out, HWE.out, nextF_some (HRE.out.2 ⟨heq, HON.out⟩) fun j' hj' he => HR.out j' (by
     obtain ⟨r, hr, hre, _⟩ := id he
     rw [← HL.out]
     exact rowF_ahead (y := k) (j := j) (by rw [HL.out]; exact HX.out) hj' (by rw [List.getElem?_map, hr]; simp [hre])) he])
   rw [← heq] at h61
   have HPA : Hid ((putA B S j).acts.idxOf j ≤ 1048577) := Lh (by
    have h1 := List.idxOf_le_length (a := j) (l := (putA B S j).acts)
    have h2 : (putA B S j).acts.length ≤ S.acts.length + 1 := by unfold putA; split <;> simp
    have h3 : S.acts.length = V.acs.length := by rw [← hS.out.acts]; simp
    omega)
   obtain ⟨ix, hix⟩ : ∃ z, (putA B S j).acts.idxOf j = z := ⟨_, rfl⟩
   rw [hix] at HNX HPA
   have HIX2 := Lh hix
   have hix2 : -2 - (ix : Int) = -2 - (ix : Int) := rfl
   clear heq hix hix2
   go_wp2_with fail
   refine (act_mk w5 B V S (Lh (hM.out.below HBW5.out)) hS (Lh fun W' hW => hD.out W' ((HBW5.out.mono hM.out.nle).trans hW)) j f HF (by have := (List.getElem?_eq_some_iff.1 HF.out).1; omega) hpl hal (hout.out f (List.mem_of_getElem? HF.out)) (Lh (hO.out.parts.1 f (List.mem_of_getElem? HF.out)))).mono ?_
   rintro e w7 ⟨V7, rfl, HM7, HF7, HS7, hns⟩
   rw [HIX2.out]
   have hixl : (ix : Int) ≤ 1048577 := by have := HPA.out; omega
   have hwr : wrap64 (-2 - (ix : Int)) = -2 - (ix : Int) := by unfold wrap64; omega
   have HFF := Lh ((MkF.of_below HBW5.out hM.out.nle).trans HF7.out)
   have HNS := Lh hns
   clear hns
   go_wp2_with fail
   go_ret
   rw [HNX.out]
   exact ⟨V7, rfl, HM7, HFF, HS7, HNS.out⟩
  ·have HG2 : Hid (pB (∃ j' : Nat, (j' : Int) ∈ l.take (k + 1) ∧ RuC B q w j') = true) := Lh (pB_true ⟨j, by rw [List.take_add_one, HX.out]; simp, HRU.out.2 ⟨by have := HLEN.out; omega, HON.out⟩⟩)
   have HN := Lh (HNEW.out (fun h => heq (HRE.out.1 h).1))
   have heq2 : ¬ (f.gs.length : Int) = (w.length : Int) := by omega
   clear heq
   go_wp2_with fail
   go_roundw
   case rel => exact ⟨k + 1, true, by have := HLT.out; omega, by go_num, rfl, HG2, HN, HBN⟩
   case measure => have := HLT.out; simp [intOf]; omega
 obtain rfl : k = l.length := by omega
 have hd : decide (l.length < l.length) = false := by simp
 have HNO : Hid (nextF B q w = none) := Lh (nextF_none fun j hj => by
  obtain ⟨f, hf, he, _⟩ := id hj
  refine HR.out j ?_ hj
  rw [List.take_length, ← HL.out]
  exact rowF_mem.2 ⟨j, rfl, by rw [List.getElem?_map, hf]; simp [he]⟩)
 have HGR : Hid (pB (∃ j, RuC B q w j) = g) := Lh (by
  rw [← HG.out]
  refine pB_congr ⟨fun ⟨j, hj⟩ => ⟨j, ?_, hj⟩, fun ⟨j, _, hj⟩ => ⟨j, hj⟩⟩
  obtain ⟨f, hf, he, _⟩ := id hj
  rw [List.take_length, ← HL.out]
  exact rowF_mem.2 ⟨j, rfl, by rw [List.getElem?_map, hf]; simp [he]⟩)
 have hbr : Below W.heap.size W wr := HBC.out.trans (HB.out.mono (by have := HSC.out; omega))
 have HBR := Lh hbr
 have hxr : wr.heap[W.heap.size]? = some (.cells #[.int .i64 (q : Int), .int .i64 (w.length : Int), .int .i64 d0, .int .i64 d1, .int .i64 d2, .int .i64 d3] 150 (0, 0)) := (HB.out.block _ (by have := HSC.out; omega)).trans HXW.out
 have hsr : W.heap.size < wr.heap.size := by have := HB.out.size; have := HSC.out; omega
 have HXR := Lh hxr
 have HSR := Lh hsr
 obtain ⟨wD, hwD⟩ : ∃ z, z = wr := ⟨_, rfl⟩
 have HMD := Lh (hM.out.below hbr)
 have hfn : q < B.fins.length := by have := hO.out.fn; omega
 obtain ⟨ya, yc, hyrow⟩ := hO.out.fins q hq
 have hm8 := HMD.out.clo (i := 8) (by decide) rfl
 obtain ⟨yb, yoff, za, zc, zl, hfa, hx, hcx, hix⟩ := (HMD.out.imm.now.fins).1.at_ (j := q) hfn
 have hxe : (za, zc, zl) = (ya, yc, rowF (B.d.fs.map (·.fr)) q) := by rw [hyrow] at hx; exact (Option.some.inj hx).symm
 obtain ⟨rfl, rfl, rfl⟩ : za = ya ∧ zc = yc ∧ zl = rowF (B.d.fs.map (·.fr)) q := by simpa using hxe
 rw [hfa] at hm8
 obtain ⟨y, hy⟩ : ∃ z, rowF (B.d.fs.map (·.fr)) q = z := ⟨_, rfl⟩
 rw [hy] at hcx hix
 have hyl : y.length ≤ 1048576 := by
  have := rowF_len (B.d.fs.map (·.fr)) q
  rw [hy, List.length_map] at this; omega
 have hz1 : (q : Int) < (B.fins.length : Int) := by omega
 have hz0 : (0 : Int) ≤ (q : Int) := by omega
 have hA0 : wr.cell? ⟨W.heap.size, 0, none⟩ = some (.int .i64 (q : Int)) := by simp [World.cell?, hxr]
 have HY := Lh hy
 have HIY : Hid (IntsAt za y wr) := Lh hix
 clear hxe hyrow hx hy hix hfa hfn hbr hxr hsr HR HG HB HIX
 go_wp2_with fail
 go_quiet (fail)
 clear hm8 hcx hA0 hd hlt
 go_wp2_with fail
 subst hwD
 go_loopw [7, 89] (fun gv iv wr => ∃ (k : Nat) (g2 : Bool), k ≤ y.length ∧ iv = .int .i64 k ∧ gv = .bool g2 ∧ Hid (pB ((∃ j, RuC B q w j) ∨ ∃ j : Nat, (j : Int) ∈ y.take k ∧ FiC B q w j) = g2) ∧ Hid (Below wD.heap.size wD wr)) (fun _ iv _ => y.length - (intOf iv).toNat)
 case atStart => exact ⟨0, g, Nat.zero_le _, rfl, rfl, Lh (by rw [← HGR.out]; exact pB_congr ⟨fun h => h.elim id (by rintro ⟨j, hj, _⟩; simp at hj), .inl⟩), Lh (below_drewN (Below.refl _ _) _)⟩
 case round =>
 obtain ⟨k, g2, hk, rfl, rfl, HG, HB⟩ := hrel
 by_cases hlt : k < y.length
 ·obtain ⟨lb, lo, x, rfl, hx, hxw, hcx⟩ := ((HIY.out.below HB.out).at_ (j := k) hlt)
  have hxm : x ∈ rowF (B.d.fs.map (·.fr)) q := by rw [HY.out]; exact List.mem_of_getElem? hx
  obtain ⟨j, rfl, hj⟩ := rowF_mem.1 hxm
  rw [List.getElem?_map] at hj
  obtain ⟨f, hf, hfr⟩ : ∃ f, B.d.fs[j]? = some f ∧ f.fr = (q : Int) := by
   cases hh : B.d.fs[j]? with
   | none => rw [hh] at hj; cases hj
   | some f => rw [hh] at hj; exact ⟨f, rfl, by simpa using hj⟩
  have hjl : j < B.d.fs.length := (List.getElem?_eq_some_iff.1 hf).1
  have hbr : Below W.heap.size W wr := HBR.out.trans (HB.out.mono (by have := HSR.out; omega))
  have HMR := Lh (hM.out.below hbr)
  obtain ⟨fb, fo, f', hfA, hf', hfw, hd0, hd1, hd2⟩ := (hD.out wr (hbr.mono hM.out.nle)).fins.at_ (j := j) hjl
  obtain rfl : f = f' := by rw [hf] at hf'; exact Option.some.inj hf'
  have hm5 := HMR.out.clo (i := 5) (by decide) rfl
  rw [hfA] at hm5
  have HX := Lh hx
  have HLT := Lh hlt
  obtain ⟨x0, hx0⟩ : ∃ z, f.fr = z := ⟨_, rfl⟩
  rw [hx0] at hd0
  have HXA2 : Hid (wr.heap[W.heap.size]? = some (.cells #[.int .i64 (q : Int), .int .i64 (w.length : Int), .int .i64 d0, .int .i64 d1, .int .i64 d2, .int .i64 d3] 150 (0, 0))) := Lh ((HB.out.block _ HSR.out).trans HXR.out)
  obtain ⟨xb, hxb⟩ : ∃ z, wr.heap.size = z := ⟨_, rfl⟩
  have hWxb : W.heap.size < xb := by have := HB.out.size; have := HSR.out; omega
  obtain ⟨w2, hw2⟩ : ∃ z, wr.alloc (.cells #[.int .i64 x0, .slice f.ga f.gs.length f.gc, .slice f.o.a f.o.l.length f.o.c] 134) = z := ⟨_, rfl⟩
  have hb2 : Below wr.heap.size wr w2 := by rw [← hw2]; exact (Below.refl _ _).alloc (Nat.le_refl _) _
  have hs2 : w2.heap.size = xb + 1 := by rw [← hw2, ← hxb]; simp
  have hx2 : w2.heap[xb]? = some (.cells #[.int .i64 x0, .slice f.ga f.gs.length f.gc, .slice f.o.a f.o.l.length f.o.c] 134 (0, 0)) := by rw [← hw2, ← hxb]; exact heap_alloc_new wr _
  have hx2w : w2.heap[W.heap.size]? = some (.cells #[.int .i64 (q : Int), .int .i64 (w.length : Int), .int .i64 d0, .int .i64 d1, .int .i64 d2, .int .i64 d3] 150 (0, 0)) := (hb2.block _ (by omega)).trans HXA2.out
  have hbW2 : Below W.heap.size W w2 := hbr.trans (hb2.mono (by omega))
  have HB2 := Lh hb2
  have HXB := Lh hxb
  have HM2 := Lh (hM.out.below hbW2)
  have HK2 := HM2.out.has_st (G := fun W' => LLx f.ga f.gs W') (fun W' hW => ((hD.out W' ((hbW2.trans (hW.mono hbW2.size)).mono hM.out.nle)).fins.it f (List.mem_of_getElem? hf)).2.1)
  have hjl1 : (j : Int) < (B.d.fs.length : Int) := by omega
  have hj0 : (0 : Int) ≤ (j : Int) := by omega
  have hkl : (k : Int) < (y.length : Int) := by omega
  have hk0 : (0 : Int) ≤ (k : Int) := by omega
  have h51 : w2.cell? ⟨W.heap.size, 1, none⟩ = some (.int .i64 (w.length : Int)) := by simp [World.cell?, hx2w]
  have hq2 : w2.cell? ⟨xb, 1, none⟩ = some (.slice f.ga f.gs.length f.gc) := by simp [World.cell?, hx2]
  have h52 : w2.cell? ⟨W.heap.size, 2, none⟩ = some (.int .i64 d0) := by simp [World.cell?, hx2w]
  have h53 : w2.cell? ⟨W.heap.size, 3, none⟩ = some (.int .i64 d1) := by simp [World.cell?, hx2w]
  have h54 : w2.cell? ⟨W.heap.size, 4, none⟩ = some (.int .i64 d2) := by simp [World.cell?, hx2w]
  have h55 : w2.cell? ⟨W.heap.size, 5, none⟩ = some (.int .i64 d3) := by simp [World.cell?, hx2w]
  have HSTEP : Hid (pB ((∃ j, RuC B q w j) ∨ ∃ j' : Nat, (j' : Int) ∈ y.take (k + 1) ∧ FiC B q w j') = (g2 || pB (FiC B q w j))) := Lh (by
   rw [List.take_add_one, hx, ← HG.out, ← pB_or]
   refine pB_congr ⟨?_, ?_⟩
   ·rintro (h | ⟨j', h1, h2⟩)
    ·exact .inl (.inl h)
    ·rcases List.mem_append.1 h1 with h1 | h1
     ·exact .inl (.inr ⟨j', h1, h2⟩)
     ·have e : j' = j := by simp at h1; omega
      subst e
      exact .inr h2
   ·rintro ((h | ⟨j', h1, h2⟩) | h)
    ·exact .inl h
    ·exact .inr ⟨j', List.mem_append.2 (.inl h1), h2⟩
    ·exact .inr ⟨j, List.mem_append.2 (.inr (by simp)), h⟩)
  have HFI : Hid (FiC B q w j ↔ w.length ≤ f.gs.length ∧ OnG B.ls (bodies f.gs) w) := Lh ⟨fun ⟨r, h1, _, h3, h4⟩ => by rw [hf] at h1; injection h1 with h1; subst h1; exact ⟨h3, h4⟩, fun h => ⟨f, hf, hfr, h.1, h.2⟩⟩
  have HBN2 : Hid (Below wD.heap.size wD w2) := Lh (HB.out.trans (HB2.out.mono HB.out.size))
  clear hb2 hs2 hx2 hx2w hbW2 hbr hWxb hx hxm hj hf hfr hfA hf' hfw hx0 hlt
  rcases g2 with _ | _
  case true =>
   rw [Bool.true_or] at HSTEP
   go_wp2_with fail
   (try rw [hw2])
   go_roundw
   case rel => exact ⟨k + 1, true, by have := HLT.out; omega, by go_num, rfl, HSTEP, HBN2⟩
   case measure => have := HLT.out; simp [intOf]; omega
  rw [Bool.false_or] at HSTEP
  by_cases hlen : w.length ≤ f.gs.length
  case neg =>
   rw [pB_false (fun h => hlen (HFI.out.1 h).1)] at HSTEP
   have hlen2 : decide ((w.length : Int) ≤ (f.gs.length : Int)) = false := by simp; omega
   have hlen3 : decide (w.length ≤ f.gs.length) = false := by simp; omega
   clear hlen
   go_wp2_with fail
   (try rw [hw2])
   go_roundw
   case rel => exact ⟨k + 1, false, by have := HLT.out; omega, by go_num, rfl, HSTEP, HBN2⟩
   case measure => have := HLT.out; simp [intOf]; omega
  have HLEN := Lh hlen
  have hlen2 : (w.length : Int) ≤ (f.gs.length : Int) := by omega
  have hlen3 : decide ((w.length : Int) ≤ (f.gs.length : Int)) = true := by simp; omega
  go_wp2_with fail
  obtain ⟨v, hv⟩ : ∃ v, pB (OnG B.ls (bodies f.gs) w) = v := ⟨_, rfl⟩
  refine (has_st HK2 B.mb (fun _ h => h.1) (fun _ h => h.2) f.gc w d0 d1 d2 d3 hwc HWD v (Lh hv)).mono ?_
  rintro e w5 ⟨rfl, HK5⟩
  have hb5 : Below w2.heap.size w2 w5 := HK5.out.2
  have HBN : Hid (Below wD.heap.size wD w5) := Lh (HBN2.out.trans (hb5.mono HBN2.out.size))
  rw [show pB (FiC B q w j) = v by rw [← hv]; exact pB_congr (HFI.out.trans ⟨fun h => h.2, fun h => ⟨HLEN.out, h⟩⟩)] at HSTEP
  clear hb5 hv HK5 HK2
  go_wp2_with fail
  go_roundw
  case rel => exact ⟨k + 1, v, by have := HLT.out; omega, by go_num, rfl, HSTEP, HBN⟩
  case measure => have := HLT.out; simp [intOf]; omega
 obtain rfl : k = y.length := by omega
 have hd : decide (y.length < y.length) = false := by simp
 have HGG : Hid (goesF B q w = g2) := Lh (by
  rw [← HG.out]
  unfold goesF
  refine pB_congr ⟨fun h => h.elim .inl fun ⟨j, hj⟩ => .inr ⟨j, ?_, hj⟩, fun h => h.elim .inl fun ⟨j, _, hj⟩ => .inr ⟨j, hj⟩⟩
  obtain ⟨f, hf, he, _⟩ := id hj
  rw [List.take_length, ← HY.out]
  exact rowF_mem.2 ⟨j, rfl, by rw [List.getElem?_map, hf]; simp [he]⟩)
 have hbE : Below W.heap.size W wr := HBR.out.trans (HB.out.mono (by have := HSR.out; omega))
 have HBE := Lh hbE
 have HME := Lh (hM.out.below hbE)
 have hxE : wr.heap[W.heap.size]? = some (.cells #[.int .i64 (q : Int), .int .i64 (w.length : Int), .int .i64 d0, .int .i64 d1, .int .i64 d2, .int .i64 d3] 150 (0, 0)) := (HB.out.block _ HSR.out).trans HXR.out
 have h50 : wr.cell? ⟨W.heap.size, 0, none⟩ = some (.int .i64 (q : Int)) := by simp [World.cell?, hxE]
 have h51 : wr.cell? ⟨W.heap.size, 1, none⟩ = some (.int .i64 (w.length : Int)) := by simp [World.cell?, hxE]
 have h52 : wr.cell? ⟨W.heap.size, 2, none⟩ = some (.int .i64 d0) := by simp [World.cell?, hxE]
 have h53 : wr.cell? ⟨W.heap.size, 3, none⟩ = some (.int .i64 d1) := by simp [World.cell?, hxE]
 have h54 : wr.cell? ⟨W.heap.size, 4, none⟩ = some (.int .i64 d2) := by simp [World.cell?, hxE]
 have h55 : wr.cell? ⟨W.heap.size, 5, none⟩ = some (.int .i64 d3) := by simp [World.cell?, hxE]
 clear hbE hxE
 rcases g2 with _ | _
 ·have HNX : Hid (nextS B S q wd c = (S, -1)) := Lh (by
   unfold nextS
   rw [if_neg HW4.out, HWE.out, HNO.out]
   show (if goesF B q w = true then _ else _) = _
   rw [HGG.out]; rfl)
  have HFE := Lh (MkF.of_below (V := V) HBE.out hM.out.nle)
  go_wp2_with fail
  go_ret
  rw [HNX.out]
  exact ⟨V, rfl, HME, HFE, hS, rfl⟩
 ·have HNX : Hid (nextS B S q wd c = ({ S with ps := putL S.ps ((q : Int), w) }, (((putL S.ps ((q : Int), w)).idxOf ((q : Int), w) : Nat) : Int))) := Lh (by
   unfold nextS
   rw [if_neg HW4.out, HWE.out, HNO.out]
   show (if goesF B q w = true then _ else _) = _
   rw [HGG.out]; rfl)
  go_wp2_with fail
  refine (node_mk wr B V HME ((q : Int), w) HPO.out q w.length d0 d1 d2 d3 HPC (by omega)).mono ?_
  rintro e w7 ⟨a7, c7, rfl, HM7, HF7⟩
  have HFF := Lh ((MkF.of_below HBE.out hM.out.nle).trans HF7.out)
  have HPS := Lh hS.out.ps
  go_wp2_with fail
  go_ret
  rw [HNX.out]
  exact ⟨_, by rw [HPS.out]; rfl, HM7, HFF, Lh (hS.out.withP _ _ _), rfl⟩
section
noncomputable def nxtS (B : MkB) (S : LayS) (q : Int) (wd : List Int) : Nat → LayS × List Int
 | 0 => (S, [])
 | k + 1 => ((nextS B (nxtS B S q wd k).1 q wd (k : Int)).1, (nxtS B S q wd k).2 ++ [(nextS B (nxtS B S q wd k).1 q wd (k : Int)).2])
noncomputable def nodeS (B : MkB) (S : LayS) (p : Place) : LayS × NodeL :=
 ((nxtS B (putE B S p) p.1 p.2 B.ls.length).1, ⟨(p.2.length : Int), (nxtS B (putE B S p) p.1 p.2 B.ls.length).2, endI B S p⟩)
noncomputable def layF (B : MkB) : Nat → Nat → LayS → List NodeL → Option (LayS × List NodeL)
 | 0, _, S, ns => some (S, ns)
 | f + 1, k, S, ns => if 4096 < S.ps.length then none else match S.ps[k]? with
  | none => some (S, ns)
  | some p => layF B f (k + 1) (nodeS B S p).1 (ns ++ [(nodeS B S p).2])
structure LayOk (B : MkB) (S : LayS) : Prop where
 ps : ∀ p ∈ S.ps, (0 ≤ p.1 ∧ p.1 < B.d.n) ∧ ClsOk B.ls p.2
 nod : S.ps.Nodup
section
variable {B : MkB} {S : LayS}
theorem putL_nodup {α : Type} [DecidableEq α] {l : List α} {x : α} (h : l.Nodup) : (putL l x).Nodup := by
 unfold putL
 split
 ·exact h
 ·rename_i hn
  exact List.nodup_append.2 ⟨h, by simp, fun a ha b hb e => hn (by rw [List.mem_singleton] at hb; rw [← hb, ← e]; exact ha)⟩
theorem putL_le {α : Type} [DecidableEq α] (l : List α) (x : α) : l.length ≤ (putL l x).length ∧ (putL l x).length ≤ l.length + 1 := by
 unfold putL
 split
 ·omega
 ·simp
theorem LayOk.put (h : LayOk B S) {p : Place} (hp : (0 ≤ p.1 ∧ p.1 < B.d.n) ∧ ClsOk B.ls p.2) (a e : List Nat) : LayOk B ⟨putL S.ps p, a, e⟩ :=
 ⟨fun r hr => (mem_put.1 hr).elim (h.ps r) (fun e => e ▸ hp), putL_nodup h.nod⟩
theorem LayOk.putA (h : LayOk B S) (hd : ∀ r ∈ B.d.rs, 0 ≤ r.dst ∧ r.dst < B.d.n) {i : Nat} (hi : i < B.d.rs.length) : LayOk B (putA B S i) := by
 unfold Go.Proofs.YtlmkokeapbleoaaGreat.putA
 split
 ·exact h
 ·rw [List.getElem?_eq_getElem hi]
  exact h.put ⟨hd _ (List.getElem_mem hi), by simp [ClsOk]⟩ _ _
theorem LayOk.putE (h : LayOk B S) (p : Place) : LayOk B (putE B S p) := by
 unfold Go.Proofs.YtlmkokeapbleoaaGreat.putE
 split
 ·exact h
 ·exact ⟨h.ps, h.nod⟩
theorem LayOk.next (h : LayOk B S) (hd : ∀ r ∈ B.d.rs, 0 ≤ r.dst ∧ r.dst < B.d.n) {q : Int} {wd : List Int} (hq : 0 ≤ q ∧ q < B.d.n) (hw : ClsOk B.ls wd) {c : Int} (hc : 0 ≤ c ∧ c < B.ls.length) : LayOk B (nextS B S q wd c).1 := by
 unfold nextS
 split
 ·exact h
 ·rename_i h4
  have hwc : ClsOk B.ls (wd ++ [c]) := ⟨by rw [List.length_append, List.length_singleton]; have := hw.1; omega, fun x hx => by
   rcases List.mem_append.1 hx with hx | hx
   ·exact hw.2 x hx
   ·rw [List.mem_singleton] at hx; subst hx; exact hc⟩
  split
  ·rename_i j hj
   refine h.putA hd ?_
   unfold nextF at hj
   exact List.mem_range.1 (List.mem_of_find?_eq_some hj)
  ·split
   ·exact h.put ⟨hq, hwc⟩ _ _
   ·exact h
theorem putA_le (B : MkB) (S : LayS) (i : Nat) : (S.ps.length ≤ (putA B S i).ps.length ∧ (putA B S i).ps.length ≤ S.ps.length + 1) ∧ (S.acts.length ≤ (putA B S i).acts.length ∧ (putA B S i).acts.length ≤ S.acts.length + 1) ∧ (putA B S i).ends = S.ends := by
 unfold putA
 split
 ·exact ⟨by omega, by omega, rfl⟩
 ·refine ⟨putL_le _ _, by simp, rfl⟩
theorem nextS_le (B : MkB) (S : LayS) (q : Int) (wd : List Int) (c : Int) : (S.ps.length ≤ (nextS B S q wd c).1.ps.length ∧ (nextS B S q wd c).1.ps.length ≤ S.ps.length + 1) ∧ (S.acts.length ≤ (nextS B S q wd c).1.acts.length ∧ (nextS B S q wd c).1.acts.length ≤ S.acts.length + 1) ∧ (nextS B S q wd c).1.ends = S.ends := by
 unfold nextS
 split
 ·exact ⟨⟨Nat.le_refl _, Nat.le_succ _⟩, ⟨Nat.le_refl _, Nat.le_succ _⟩, rfl⟩
 ·split
  ·exact putA_le _ _ _
  ·split
   ·exact ⟨putL_le _ _, ⟨Nat.le_refl _, Nat.le_succ _⟩, rfl⟩
   ·exact ⟨⟨Nat.le_refl _, Nat.le_succ _⟩, ⟨Nat.le_refl _, Nat.le_succ _⟩, rfl⟩
theorem nxtS_le (B : MkB) (S : LayS) (q : Int) (wd : List Int) (k : Nat) : (S.ps.length ≤ (nxtS B S q wd k).1.ps.length ∧ (nxtS B S q wd k).1.ps.length ≤ S.ps.length + k) ∧ (S.acts.length ≤ (nxtS B S q wd k).1.acts.length ∧ (nxtS B S q wd k).1.acts.length ≤ S.acts.length + k) ∧ (nxtS B S q wd k).1.ends = S.ends ∧ (nxtS B S q wd k).2.length = k := by
 induction k with
 | zero => exact ⟨⟨Nat.le_refl _, Nat.le_refl _⟩, ⟨Nat.le_refl _, Nat.le_refl _⟩, rfl, rfl⟩
 | succ k ih =>
  have h := nextS_le B (nxtS B S q wd k).1 q wd (k : Int)
  obtain ⟨⟨a1, a2⟩, ⟨a3, a4⟩, a5, a6⟩ := ih
  obtain ⟨⟨b1, b2⟩, ⟨b3, b4⟩, b5⟩ := h
  refine ⟨⟨?_, ?_⟩, ⟨?_, ?_⟩, ?_, ?_⟩
  ·show _ ≤ (nextS B (nxtS B S q wd k).1 q wd (k : Int)).1.ps.length
   omega
  ·show (nextS B (nxtS B S q wd k).1 q wd (k : Int)).1.ps.length ≤ _
   omega
  ·show _ ≤ (nextS B (nxtS B S q wd k).1 q wd (k : Int)).1.acts.length
   omega
  ·show (nextS B (nxtS B S q wd k).1 q wd (k : Int)).1.acts.length ≤ _
   omega
  ·show (nextS B (nxtS B S q wd k).1 q wd (k : Int)).1.ends = _
   rw [b5, a5]
  ·show ((nxtS B S q wd k).2 ++ [_]).length = _
   rw [List.length_append, a6]; rfl
theorem LayOk.nxt (h : LayOk B S) (hd : ∀ r ∈ B.d.rs, 0 ≤ r.dst ∧ r.dst < B.d.n) {q : Int} {wd : List Int} (hq : 0 ≤ q ∧ q < B.d.n) (hw : ClsOk B.ls wd) {k : Nat} (hk : k ≤ B.ls.length) : LayOk B (nxtS B S q wd k).1 := by
 induction k with
 | zero => exact h
 | succ k ih => exact (ih (by omega)).next hd hq hw ⟨by omega, by omega⟩
theorem LayOk.node (h : LayOk B S) (hd : ∀ r ∈ B.d.rs, 0 ≤ r.dst ∧ r.dst < B.d.n) {p : Place} (hp : p ∈ S.ps) : LayOk B (nodeS B S p).1 :=
 (h.putE p).nxt hd (h.ps p hp).1 (h.ps p hp).2 (Nat.le_refl _)
theorem putE_le (B : MkB) (S : LayS) (p : Place) : (putE B S p).ps = S.ps ∧ (putE B S p).acts = S.acts ∧ S.ends.length ≤ (putE B S p).ends.length ∧ (putE B S p).ends.length ≤ S.ends.length + 1 := by
 unfold putE
 split
 ·exact ⟨rfl, rfl, Nat.le_refl _, Nat.le_succ _⟩
 ·exact ⟨rfl, rfl, putL_le _ _⟩
theorem layF_stop {k f : Nat} {ns : List NodeL} (h4 : S.ps.length ≤ 4096) (hk : S.ps.length ≤ k) : layF B f k S ns = some (S, ns) := by
 cases f with
 | zero => rfl
 | succ f => unfold layF; rw [if_neg (by omega), List.getElem?_eq_none hk]
end
end
section
theorem pB_is {p : Prop} {b : Bool} (h : b = true ↔ p) : pB p = b := by
 cases b with
 | true => exact pB_true (h.1 rfl)
 | false => exact pB_false fun hp => Bool.noConfusion (h.2 hp)
def onB (ls : List Int) (gs : List (List Sp)) (w : List Int) : Bool := (gs.zip w).all fun x => hasB x.1 (ls.getD x.2.toNat 0)
theorem onB_iff (ls : List Int) (gs : List (List Sp)) (w : List Int) : onB ls gs w = true ↔ OnG ls gs w := by
 unfold onB OnG
 rw [List.all_eq_true]
 constructor
 ·intro h j g c hg hc
  exact h (g, c) (List.mem_of_getElem? (i := j) (List.getElem?_zip_eq_some.2 ⟨hg, hc⟩))
 ·rintro h ⟨g, c⟩ hx
  obtain ⟨j, hj⟩ := List.getElem?_of_mem hx
  obtain ⟨h1, h2⟩ := List.getElem?_zip_eq_some.1 hj
  exact h j g c h1 h2
def endCb (D : DescL) (ls : List Int) (p : Place) (j : Nat) : Bool := match D.fins[j]? with
 | some f => f.fr == p.1 && f.gs.length == p.2.length && onB ls f.gs p.2
 | none => false
def ruEb (D : DescL) (ls : List Int) (q : Int) (w : List Int) (j : Nat) : Bool := match D.rules[j]? with
 | some r => r.fr == q && r.gs.length == w.length && onB ls r.gs w
 | none => false
def ruCb (D : DescL) (ls : List Int) (q : Int) (w : List Int) (j : Nat) : Bool := match D.rules[j]? with
 | some r => r.fr == q && decide (w.length ≤ r.gs.length) && onB ls r.gs w
 | none => false
def fiCb (D : DescL) (ls : List Int) (q : Int) (w : List Int) (j : Nat) : Bool := match D.fins[j]? with
 | some r => r.fr == q && decide (w.length ≤ r.gs.length) && onB ls r.gs w
 | none => false
def endL (D : DescL) (ls : List Int) (p : Place) : Option Nat := (List.range D.fins.length).find? fun j => endCb D ls p j
def nextL (D : DescL) (ls : List Int) (q : Int) (w : List Int) : Option Nat := (List.range D.rules.length).find? fun j => ruEb D ls q w j
def goesL (D : DescL) (ls : List Int) (q : Int) (w : List Int) : Bool := ((List.range D.rules.length).any fun j => ruCb D ls q w j) || ((List.range D.fins.length).any fun j => fiCb D ls q w j)
def putAL (D : DescL) (S : LayS) (i : Nat) : LayS := if i ∈ S.acts then S else { S with ps := putL S.ps (((D.rules[i]?).map (·.dst)).getD 0, []), acts := S.acts ++ [i] }
def putEL (D : DescL) (ls : List Int) (S : LayS) (p : Place) : LayS := match endL D ls p with
 | none => S
 | some j => { S with ends := putL S.ends j }
def endIL (D : DescL) (ls : List Int) (S : LayS) (p : Place) : Int := match endL D ls p with
 | none => -1
 | some j => ((putL S.ends j).idxOf j : Nat)
def nextSL (D : DescL) (ls : List Int) (S : LayS) (q : Int) (wd : List Int) (c : Int) : LayS × Int :=
 if wd.length = 4 then (S, -1)
 else match nextL D ls q (wd ++ [c]) with
  | some j => (putAL D S j, -2 - ((putAL D S j).acts.idxOf j : Nat))
  | none => if goesL D ls q (wd ++ [c]) = true then ({ S with ps := putL S.ps (q, wd ++ [c]) }, ((putL S.ps (q, wd ++ [c])).idxOf (q, wd ++ [c]) : Nat)) else (S, -1)
def nxtSL (D : DescL) (ls : List Int) (S : LayS) (q : Int) (wd : List Int) : Nat → LayS × List Int
 | 0 => (S, [])
 | k + 1 => ((nextSL D ls (nxtSL D ls S q wd k).1 q wd (k : Int)).1, (nxtSL D ls S q wd k).2 ++ [(nextSL D ls (nxtSL D ls S q wd k).1 q wd (k : Int)).2])
def nodeSL (D : DescL) (ls : List Int) (S : LayS) (p : Place) : LayS × NodeL :=
 ((nxtSL D ls (putEL D ls S p) p.1 p.2 ls.length).1, ⟨(p.2.length : Int), (nxtSL D ls (putEL D ls S p) p.1 p.2 ls.length).2, endIL D ls S p⟩)
def layL (D : DescL) (ls : List Int) : Nat → Nat → LayS → List NodeL → Option (LayS × List NodeL)
 | 0, _, S, ns => some (S, ns)
 | f + 1, k, S, ns => if 4096 < S.ps.length then none else match S.ps[k]? with
  | none => some (S, ns)
  | some p => layL D ls f (k + 1) (nodeSL D ls S p).1 (ns ++ [(nodeSL D ls S p).2])
section
variable (B : MkB)
theorem endL_eq (p : Place) : endF B p = endL B.d.L B.ls p := by
 unfold endF endL
 have hl : B.d.L.fins.length = B.d.fs.length := by show (B.d.fs.map FinI.L).length = _; rw [List.length_map]
 rw [hl]
 congr 1
 funext j
 refine pB_is ?_
 unfold endCb EndC
 have hj : B.d.L.fins[j]? = (B.d.fs[j]?).map FinI.L := by show (B.d.fs.map FinI.L)[j]? = _; rw [List.getElem?_map]
 rw [hj]
 cases h : B.d.fs[j]? with
 | none => simp
 | some f =>
  simp only [Option.map_some, Bool.and_eq_true, beq_iff_eq, onB_iff, Option.some.injEq, exists_eq_left', FinI.L, bodies_len]
  exact and_assoc
theorem nextL_eq (q : Int) (w : List Int) : nextF B q w = nextL B.d.L B.ls q w := by
 unfold nextF nextL
 have hl : B.d.L.rules.length = B.d.rs.length := by show (B.d.rs.map RuleI.L).length = _; rw [List.length_map]
 rw [hl]
 congr 1
 funext j
 refine pB_is ?_
 unfold ruEb RuE
 have hj : B.d.L.rules[j]? = (B.d.rs[j]?).map RuleI.L := by show (B.d.rs.map RuleI.L)[j]? = _; rw [List.getElem?_map]
 rw [hj]
 cases h : B.d.rs[j]? with
 | none => simp
 | some f =>
  simp only [Option.map_some, Bool.and_eq_true, beq_iff_eq, onB_iff, Option.some.injEq, exists_eq_left', RuleI.L, bodies_len]
  exact and_assoc
theorem goesL_eq (q : Int) (w : List Int) : goesF B q w = goesL B.d.L B.ls q w := by
 unfold goesF goesL
 refine pB_is ?_
 rw [Bool.or_eq_true, List.any_eq_true, List.any_eq_true]
 refine or_congr ?_ ?_
 ·constructor
  ·rintro ⟨j, _, hj⟩
   refine ⟨j, ?_⟩
   unfold ruCb at hj
   have hg : B.d.L.rules[j]? = (B.d.rs[j]?).map RuleI.L := by show (B.d.rs.map RuleI.L)[j]? = _; rw [List.getElem?_map]
   rw [hg] at hj
   cases h : B.d.rs[j]? with
   | none => rw [h] at hj; simp at hj
   | some f =>
    rw [h] at hj
    simp only [Option.map_some, Bool.and_eq_true, beq_iff_eq, onB_iff, decide_eq_true_eq, RuleI.L, bodies_len] at hj
    exact ⟨f, h, hj.1.1, hj.1.2, hj.2⟩
  ·rintro ⟨j, f, h, h1, h2, h3⟩
   have hg : B.d.L.rules[j]? = (B.d.rs[j]?).map RuleI.L := by show (B.d.rs.map RuleI.L)[j]? = _; rw [List.getElem?_map]
   refine ⟨j, List.mem_range.2 ?_, ?_⟩
   ·show j < (B.d.rs.map RuleI.L).length
    rw [List.length_map]; exact (List.getElem?_eq_some_iff.1 h).1
   ·unfold ruCb
    rw [hg, h]
    simp only [Option.map_some, Bool.and_eq_true, beq_iff_eq, onB_iff, decide_eq_true_eq, RuleI.L, bodies_len]
    exact ⟨⟨h1, h2⟩, h3⟩
 ·constructor
  ·rintro ⟨j, _, hj⟩
   refine ⟨j, ?_⟩
   unfold fiCb at hj
   have hg : B.d.L.fins[j]? = (B.d.fs[j]?).map FinI.L := by show (B.d.fs.map FinI.L)[j]? = _; rw [List.getElem?_map]
   rw [hg] at hj
   cases h : B.d.fs[j]? with
   | none => rw [h] at hj; simp at hj
   | some f =>
    rw [h] at hj
    simp only [Option.map_some, Bool.and_eq_true, beq_iff_eq, onB_iff, decide_eq_true_eq, FinI.L, bodies_len] at hj
    exact ⟨f, h, hj.1.1, hj.1.2, hj.2⟩
  ·rintro ⟨j, f, h, h1, h2, h3⟩
   have hg : B.d.L.fins[j]? = (B.d.fs[j]?).map FinI.L := by show (B.d.fs.map FinI.L)[j]? = _; rw [List.getElem?_map]
   refine ⟨j, List.mem_range.2 ?_, ?_⟩
   ·show j < (B.d.fs.map FinI.L).length
    rw [List.length_map]; exact (List.getElem?_eq_some_iff.1 h).1
   ·unfold fiCb
    rw [hg, h]
    simp only [Option.map_some, Bool.and_eq_true, beq_iff_eq, onB_iff, decide_eq_true_eq, FinI.L, bodies_len]
    exact ⟨⟨h1, h2⟩, h3⟩
theorem putAL_eq (S : LayS) (i : Nat) : putA B S i = putAL B.d.L S i := by
 unfold putA putAL
 have hg : B.d.L.rules[i]? = (B.d.rs[i]?).map RuleI.L := by show (B.d.rs.map RuleI.L)[i]? = _; rw [List.getElem?_map]
 rw [hg, Option.map_map]; rfl
theorem nextSL_eq (S : LayS) (q : Int) (wd : List Int) (c : Int) : nextS B S q wd c = nextSL B.d.L B.ls S q wd c := by
 unfold nextS nextSL
 rw [nextL_eq, goesL_eq]
 simp only [putAL_eq] <;> rfl
theorem nxtSL_eq (S : LayS) (q : Int) (wd : List Int) (k : Nat) : nxtS B S q wd k = nxtSL B.d.L B.ls S q wd k := by
 induction k with
 | zero => rfl
 | succ k ih => simp only [nxtS, nxtSL, ih, nextSL_eq]
theorem nodeSL_eq (S : LayS) (p : Place) : nodeS B S p = nodeSL B.d.L B.ls S p := by
 unfold nodeS nodeSL putE putEL endI endIL
 simp only [nxtSL_eq, endL_eq] <;> rfl
theorem layL_eq (f : Nat) : ∀ (k : Nat) (S : LayS) (ns : List NodeL), layF B f k S ns = layL B.d.L B.ls f k S ns := by
 induction f with
 | zero => intro k S ns; rfl
 | succ f ih =>
  intro k S ns
  simp only [layF, layL, nodeSL_eq]
  split
  ·rfl
  ·cases S.ps[k]? with
   | none => rfl
   | some p => exact ih _ _ _
end
def tabL (D : DescL) (cls : List Int) (x : LayS × List NodeL) : TabL :=
 ⟨cls, x.2, x.1.acts.map fun i => match D.rules[i]? with | some r => ⟨r.eat, (x.1.ps.idxOf (r.dst, []) : Nat), r.out⟩ | none => ⟨0, 0, []⟩, x.1.ends.map fun i => match D.fins[i]? with | some f => f.out | none => []⟩
end
section
theorem run_append_slN {P : Program} (w : World) (base : Nat) (t ty e : TypeId) (i : TypeInfo) (z : Value) (size bytes : Nat) (ht : P.underlying t = some (.slice e)) (hi : P.info? e = some i) (hz : i.zero = some z)
  (hsize : i.size = size) (hby : i.bytes = bytes) (hzs : z.cells.size = size) (hsz : 0 < size)
  (v : Value) (n : Nat) (xs : List Value) (hown : w.ownsRow base e size v n xs)
  (A : Option Addr) (m c : Nat) (news : List Value) (hr : Sl w size A m news) (h1 : ∀ u ∈ news, u.oneCell' = true)
  (h63 : n + m ≤ maxLen) (hbytes : (n + m) * bytes ≤ 140737488355328) (hbase : base ≤ w.heap.size) :
  ∃ v' w', (Builtin.append_ #[t, t] ty #[v, .slice A m c]).run P w = .ok v' w' ∧ w'.ownsRow base e size v' (n + m) (xs ++ news) ∧ w.grownBy w' v.ownBlock ∧ (v'.ownBlock = v.ownBlock ∨ v'.ownBlock = some w.heap.size) := by
 rcases A with _ | ad
 ·have hm : m = 0 := by
   rcases Nat.eq_zero_or_pos m with h0 | h0
   ·exact h0
   ·obtain ⟨b, off, h, _⟩ := hr.2 h0
    cases h
  subst hm
  have hn : news = [] := List.eq_nil_of_length_eq_zero (by simpa using hr.1)
  subst hn
  exact ⟨v, w, run_append_of_nil w base t ty e i size ht hi v n xs hown c, by simpa using hown, World.grownBy.refl w _, .inl rfl⟩
 ·have hcells : ∀ j u, news[j]? = some u → w.cell? (ad.add j) = some u := by
   intro j u hu
   rcases Nat.eq_zero_or_pos m with h0 | h0
   ·subst h0
    have hn : news = [] := List.eq_nil_of_length_eq_zero (by simpa using hr.1)
    subst hn
    simp at hu
   ·obtain ⟨b, off, h, hc⟩ := hr.2 h0
    cases h
    rw [add_plain]
    exact hc j u hu
  obtain ⟨v', w', hrun, h2, h3, _, h5⟩ := run_append_own_at (P := P) w base t ty e i z size bytes ht hi hz hsize hby hzs hsz v n xs hown ad m c news hr.1 hcells h1 h63 hbytes hbase
  exact ⟨v', w', hrun, h2, h3, h5⟩
theorem wpList_append_slN {P : Program} (w : World) {ops : Array Oper} {rest : List Oper} {o : Oper} {a : Act} {Q : Exit → Act → World → Prop} (hgd : o.guard = none) (s x : Operand) (t : TypeId)
  (ho : o.op = .call { callee := .builtin .append, args := #[s, x], argTypes := #[t, t] })
  (base : Nat) (e : TypeId) (i : TypeInfo) (z : Value) (size bytes : Nat) (ht : P.underlying t = some (.slice e)) (hi : P.info? e = some i) (hz : i.zero = some z)
  (hsize : i.size = size) (hby : i.bytes = bytes) (hzs : z.cells.size = size) (hsz : 0 < size)
  {A0 : Option Addr} {n c0 : Nat} {xs : List Value} (hown : w.ownsRow base e size (.slice A0 n c0) n xs) (hs : a.eval s = .slice A0 n c0)
  {A : Option Addr} {m c : Nat} {news : List Value} (hr : Sl w size A m news) (hx : a.eval x = .slice A m c) (h1 : ∀ u ∈ news, u.oneCell' = true)
  (h63 : n + m ≤ maxLen) (hbytes : (n + m) * bytes ≤ 140737488355328) (hbase : base ≤ w.heap.size)
  (h : ∀ A' c' w', Hid (w'.ownsRow base e size (.slice A' (n + m) c') (n + m) (xs ++ news)) → Hid (w.grownBy w' (ownA A0)) → Hid (Newer (ownA A0) (ownA A') w.heap.size) → wpList P ops Q rest (a.put o.dst (.slice A' (n + m) c')) w') : wpList P ops Q (o :: rest) a w := by
 refine wpList_plain hgd fun _ hK => ?_
 obtain ⟨v', w', hrun, h2, h3, h4⟩ := run_append_slN (P := P) w base t o.type e i z size bytes ht hi hz hsize hby hzs hsz (.slice A0 n c0) n xs hown A m c news hr h1 h63 hbytes hbase
 obtain ⟨A', c', rfl⟩ := own_shape h2
 unfold Oper.wp execOp
 simp only [ho, resolve, invoke, builtin, Sem.run_bind, Sem.run_pure, Result.andThen_ok, List.map_toArray, List.map_cons, List.map_nil, hs, hx, hrun]
 refine hK _ _ (h A' c' w' (Lh h2) (Lh (by rw [← own_ownA]; exact h3)) (Lh ?_))
 rw [own_ownA, own_ownA] at h4
 rcases h4 with h4 | h4
 ·exact .inl h4
 ·exact .inr ⟨_, h4, Nat.le_refl _⟩
theorem wpList_copyW {P : Program} {w : World} {ops : Array Oper} {rest : List Oper} {o : Oper} {a : Act} {Q : Exit → Act → World → Prop} (hgd : o.guard = none) (d s : Operand) (dT sT : TypeId) (ho : o.op = .call { callee := .builtin .copy, args := #[d, s], argTypes := #[dT, sT] }) (elem : TypeId) (hu : P.underlying dT = some (.slice elem))
  (hsz : (P.info? elem).map (·.size) = some 1) (g off dLen dCap sLen sCap n : Nat) (ad : Addr) (hd : a.eval d = .slice (some ⟨g, off, none⟩) dLen dCap) (hs : a.eval s = .slice (some ad) sLen sCap)
  (cur : Array Value) (t : TypeId) (hg : w.heap[g]? = some (.cells cur t (0, 0))) (cs : List Value) (hn : cs.length = n) (hm : n = Nat.min sLen dLen) (hsrc : ∀ j v, cs[j]? = some v → w.cell? (ad.add j) = some v)
  (hfit : off + n ≤ cur.size) (h1 : ∀ v ∈ cs, v.oneCell' = true) (new : Array Value) (hnew : (cur.toList.take off ++ cs ++ cur.toList.drop (off + n)).toArray = new)
  (h : ∀ w', Hid (w' = w.setRow g new) → wpList P ops Q rest (a.put o.dst (.int .i64 n)) w') : wpList P ops Q (o :: rest) a w := by
 refine wpList_plain hgd fun _ hK => ?_
 subst hn
 have hrun := run_copy_row (P := P) w dT sT o.type elem g off dLen dCap ad sLen sCap cur t cs hu hsz hg hm hsrc hfit h1
 unfold Oper.wp
 simp [execOp, ho, resolve, invoke, builtin, hd, hs, hrun, Result.andThen]
 subst hnew
 refine hK _ _ ?_
 have h2 := h (w.setRow g (List.take off cur.toList ++ cs ++ List.drop (off + cs.length) cur.toList).toArray) (Lh rfl)
 simpa [goInt] using h2
structure RwI (bb base : Nat) (B : List (Item Int)) (V : World) : Prop where
 blk : V.heap[bb]? = some (.cells (icells B).toArray 62 (0, 0))
 own : ∀ (i : Nat) x, B[i]? = some x → V.ownsRow base 3 1 (.slice x.1 x.2.2.length x.2.1) x.2.2.length (x.2.2.map (Value.int .i64))
 dis : ∀ (i j : Nat) x y, i ≠ j → B[i]? = some x → B[j]? = some y → ∀ k, ownA x.1 = some k → ownA y.1 ≠ some k
 rng : ∀ x ∈ B, ∀ v ∈ x.2.2, I64 v
section
variable {bb base : Nat} {B : List (Item Int)} {V V2 : World}
theorem RwI.start (V : World) (n base : Nat) : RwI V.heap.size base (List.replicate n (none, 0, [])) (V.alloc (.cells (madeCells #[.slice none 0 0] n) 62)) := by
 refine ⟨?_, fun i x hx => ?_, fun i j x y _ hx _ k hk => ?_, fun x hx => ?_⟩
 ·rw [heap_alloc_new V _]
  congr 2
  apply Array.ext'
  rw [toList_madeCells_one]
  simp [icells, ival]
 ·obtain ⟨_, rfl⟩ := List.mem_replicate.1 (List.mem_of_getElem? hx)
  exact World.ownsRow_nil _ _ _ _
 ·obtain ⟨_, rfl⟩ := List.mem_replicate.1 (List.mem_of_getElem? hx)
  cases hk
 ·obtain ⟨_, rfl⟩ := List.mem_replicate.1 hx
  intro v hv; cases hv
theorem RwI.lt (h : RwI bb base B V) : bb < V.heap.size := (Array.getElem?_eq_some_iff.1 h.blk).1
theorem RwI.keep (h : RwI bb base B V) (hb : V2.heap[bb]? = V.heap[bb]?) (hk : ∀ k, base ≤ k → k < V.heap.size → (∃ cur, V.heap[k]? = some (.cells cur 3 (0, 0))) → V2.heap[k]? = V.heap[k]?) : RwI bb base B V2 :=
 ⟨hb.trans h.blk, fun i x hx => own_keep (h.own i x hx) fun k hA => let t := own_ty (h.own i x hx) hA; hk k t.1 t.2.1 t.2.2, h.dis, h.rng⟩
theorem RwI.re (h : RwI bb base B V) {b2 : Nat} (hn : ∀ x ∈ B, x.1 = none) : RwI bb b2 B V := by
 refine ⟨h.blk, fun i x hx => ?_, h.dis, h.rng⟩
 have e := hn x (List.mem_of_getElem? hx)
 have h2 := h.own i x hx
 rw [e] at h2 ⊢
 rcases h2.2 with e3 | ⟨g, cap, cur, e2, _⟩
 ·exact ⟨h2.1, .inl e3⟩
 ·cases e2
theorem RwI.below (h : RwI bb base B V) (hb : Below V.heap.size V V2) : RwI bb base B V2 := h.keep (hb.block _ h.lt) fun k _ hl _ => hb.block k hl
theorem RwI.cell (h : RwI bb base B V) {i : Nat} {a : Option Addr} {c : Nat} {l : List Int} (hx : B[i]? = some (a, c, l)) : V.cell? ⟨bb, i, none⟩ = some (.slice a l.length c) ∧ V.frozen? ⟨bb, i, none⟩ = false := by
 have hb := h.blk
 refine ⟨?_, by simp [World.frozen?, hb]⟩
 simp [World.cell?, hb, icells, hx, ival]
theorem RwI.push (h : RwI bb base B V) (hbb : bb < base) (hbs : base ≤ V.heap.size) {i : Nat} {a a' : Option Addr} {c c' : Nat} {l : List Int} {x : Int} {o : Obj} (hx : B[i]? = some (a, c, l)) (hx64 : I64 x)
  (ho : V2.ownsRow base 3 1 (.slice a' (l.length + 1) c') (l.length + 1) (l.map (Value.int .i64) ++ [.int .i64 x])) (hg : (V.alloc o).grownBy V2 (ownA a)) (hn : Newer (ownA a) (ownA a') (V.heap.size + 1)) :
  RwI bb base (B.set i (a', c', l ++ [x])) (V2.setCell ⟨bb, i, none⟩ (.slice a' (l.length + 1) c')) := by
 have hab : ownA a ≠ some bb := fun e => by have := (own_ty (h.own i _ hx) e).1; omega
 have hst : ∀ k, k ≠ bb → (V2.setCell ⟨bb, i, none⟩ (.slice a' (l.length + 1) c')).heap[k]? = V2.heap[k]? := fun k hk => heap_setCell_other _ _ _ _ hk
 have h2 : ∀ k, k < V.heap.size → ownA a ≠ some k → V2.heap[k]? = V.heap[k]? := fun k hk hne => (hg.block k (by simp; omega) (fun e => hne e.symm)).trans (Below.heap_alloc _ _ _ hk)
 have hil := (List.getElem?_eq_some_iff.1 hx).1
 have hlen : (l ++ [x]).length = l.length + 1 := by simp
 have hnew : ∀ k, ownA a' = some k → ownA a = some k ∨ V.heap.size + 1 ≤ k := fun k hk => by
  rcases hn with e | ⟨g, e, hg2⟩
  ·rw [e] at hk; exact .inl hk
  ·rw [e] at hk; injection hk with hk; exact .inr (by omega)
 have hoth : ∀ (j : Nat) y, j ≠ i → B[j]? = some y → ∀ k, ownA y.1 = some k → ownA a' ≠ some k := fun j y hj hy k hk hk2 => by
  rcases hnew k hk2 with e | e
  ·exact h.dis i j _ _ (fun e => hj e.symm) hx hy k e hk
  ·have := (own_ty (h.own j y hy) hk).2.1; omega
 refine ⟨?_, fun j y hy => ?_, fun j j' y y' hne hy hy' => ?_, fun y hy => ?_⟩
 ·rw [heap_setCell_same V2 bb i _ _ _ ((h2 bb h.lt hab).trans h.blk)]
  congr 2
  apply Array.ext'
  simp only [List.setIfInBounds_toArray]
  rw [← hlen]
  exact icells_set B i (a', c', l ++ [x])
 ·by_cases e : j = i
  ·subst e
   rw [List.getElem?_set_self hil] at hy
   injection hy with hy; subst hy
   have h3 := own_keep (w' := V2.setCell ⟨bb, j, none⟩ (.slice a' (l.length + 1) c')) ho (fun k hk => hst k (fun e => by have := (own_ty ho hk).1; omega))
   simpa using h3
  ·rw [List.getElem?_set_ne (fun h => e h.symm)] at hy
   refine own_keep (h.own j y hy) fun k hk => ?_
   have ht := own_ty (h.own j y hy) hk
   exact (hst k (by omega)).trans (h2 k ht.2.1 (h.dis j i _ _ e hy hx k hk))
 ·by_cases e : j = i
  ·subst e
   rw [List.getElem?_set_self hil] at hy
   injection hy with hy; subst hy
   rw [List.getElem?_set_ne hne] at hy'
   intro k hk hk2
   exact hoth j' y' (fun e => hne e.symm) hy' k hk2 hk
  ·rw [List.getElem?_set_ne (fun h => e h.symm)] at hy
   by_cases e' : j' = i
   ·subst e'
    rw [List.getElem?_set_self hil] at hy'
    injection hy' with hy'; subst hy'
    exact hoth j y e hy
   ·rw [List.getElem?_set_ne (fun h => e' h.symm)] at hy'
    exact h.dis j j' y y' hne hy hy'
 ·rcases List.mem_or_eq_of_mem_set hy with hy | rfl
  ·exact h.rng y hy
  ·intro v hv
   rcases List.mem_append.1 hv with hv | hv
   ·exact h.rng _ (List.mem_of_getElem? hx) v hv
   ·rw [List.mem_singleton] at hv; subst hv; exact hx64
theorem RwI.row (h : RwI bb base B V) (hl : B.length ≤ 1048576) (hm : ∀ x ∈ B, x.2.2.length ≤ 1048576) (P : Nat → Prop) (hP : P bb) (hPb : ∀ k, base ≤ k → k < V.heap.size → (∃ cur, V.heap[k]? = some (.cells cur 3 (0, 0))) → P k) : Dep P V (LLi (some ⟨bb, 0, none⟩) B) := fun U hU => by
 have hb := (hU bb hP h.lt).trans h.blk
 refine ⟨⟨⟨by rw [icells_length, Nat.mul_one], fun _ => ⟨bb, 0, rfl, fun j u hu => ?_⟩⟩, fun x hx => ?_⟩, by omega⟩
 ·rw [Nat.zero_add]
  simp [World.cell?, hb, hu]
 ·obtain ⟨i, hi⟩ := List.getElem?_of_mem hx
  have h1 := h.own i x hi
  have h2 := own_keep (w' := U) h1 fun k hA => let t := own_ty h1 hA; hU k (hPb k t.1 t.2.1 t.2.2) t.2.1
  have h3 := Sl.of_own h2
  refine ⟨?_, h.rng x hx, by have := hm x hx; omega⟩
  rw [← List.map_eq_flatMap]
  exact h3
end
theorem rowF_snoc (l : List Int) (x q : Int) : rowF (l ++ [x]) q = if x = q then rowF l q ++ [(l.length : Int)] else rowF l q := by
 unfold rowF
 rw [List.length_append, List.length_singleton, List.range_succ, List.filter_append, List.map_append]
 have h1 : ((List.range l.length).filter fun j => (l ++ [x])[j]? == some q) = (List.range l.length).filter fun j => l[j]? == some q := List.filter_congr fun j hj => by
  rw [List.getElem?_append_left (List.mem_range.1 hj)]
 rw [h1]
 by_cases e : x = q
 ·subst e; simp
 ·simp [e]
end
structure KV where
 b : Nat
 off : Nat
 n : Nat
 c : Nat
 key : Int
 ix : Nat
deriving DecidableEq
namespace KV
def lt (x y : KV) : Prop := x.key < y.key ∨ (x.key = y.key ∧ x.ix < y.ix)
theorem lt_trans {x y z : KV} (h : lt x y) (k : lt y z) : lt x z := by unfold lt at *; omega
end KV
def SrtB (xs : List KV) (a b : Nat) : Prop := ∀ i j x y, a ≤ i → i < j → j < b → xs[i]? = some x → xs[j]? = some y → KV.lt x y
def IxB (xs : List KV) (a b : Nat) : Prop := ∀ i j x y, a ≤ i → i < j → j < b → xs[i]? = some x → xs[j]? = some y → x.ix < y.ix
structure Rch (a b : Nat) (xs ys : List KV) : Prop where
 len : ys.length = xs.length
 perm : ys.Perm xs
 out : ∀ j, (j < a ∨ b ≤ j) → ys[j]? = xs[j]?
 from_ : ∀ j, a ≤ j → j < b → j < xs.length → ∃ i, a ≤ i ∧ i < b ∧ i < xs.length ∧ ys[j]? = xs[i]?
theorem Rch.refl (a b : Nat) (xs : List KV) : Rch a b xs xs := ⟨rfl, List.Perm.refl _, fun _ _ => rfl, fun j h1 h2 h3 => ⟨j, h1, h2, h3, rfl⟩⟩
theorem Rch.trans {a b : Nat} {xs ys zs : List KV} (h : Rch a b xs ys) (k : Rch a b ys zs) : Rch a b xs zs := by
 refine ⟨k.len.trans h.len, k.perm.trans h.perm, fun j hj => (k.out j hj).trans (h.out j hj), fun j h1 h2 h3 => ?_⟩
 obtain ⟨i, i1, i2, i3, e⟩ := k.from_ j h1 h2 (by rw [h.len]; exact h3)
 obtain ⟨i', j1, j2, j3, e'⟩ := h.from_ i i1 i2 (by rw [← h.len]; exact i3)
 exact ⟨i', j1, j2, j3, e.trans e'⟩
theorem Rch.mono {a b a' b' : Nat} {xs ys : List KV} (h : Rch a b xs ys) (ha : a' ≤ a) (hb : b ≤ b') : Rch a' b' xs ys := by
 refine ⟨h.len, h.perm, fun j hj => h.out j (by omega), fun j h1 h2 h3 => ?_⟩
 by_cases hj : a ≤ j ∧ j < b
 ·obtain ⟨i, i1, i2, i3, e⟩ := h.from_ j hj.1 hj.2 h3
  exact ⟨i, by omega, by omega, i3, e⟩
 ·exact ⟨j, h1, h2, h3, h.out j (by omega)⟩
def swapL (xs : List KV) (i j : Nat) (x y : KV) : List KV := (xs.set i y).set j x
theorem swapL_get {xs : List KV} {i j : Nat} {x y : KV} (hi : i < xs.length) (hj : j < xs.length) (hij : i ≠ j) (p : Nat) :
  (swapL xs i j x y)[p]? = if p = j then some x else if p = i then some y else xs[p]? := by
 unfold swapL
 rw [List.getElem?_set, List.getElem?_set]
 by_cases h1 : p = j
 ·subst h1; simp [hj]
 ·by_cases h2 : p = i
  ·subst h2; simp [h1, Ne.symm h1, hi]
  ·simp [h1, h2, Ne.symm h1, Ne.symm h2]
theorem swapL_perm {xs : List KV} {i j : Nat} {x y : KV} (hi : xs[i]? = some x) (hj : xs[j]? = some y) : (swapL xs i j x y).Perm xs := by
 obtain ⟨hi', rfl⟩ := List.getElem?_eq_some_iff.1 hi
 obtain ⟨hj', rfl⟩ := List.getElem?_eq_some_iff.1 hj
 have h := Array.swap_perm (xs := xs.toArray) (i := i) (j := j) (by simpa using hi') (by simpa using hj')
 have e : (xs.toArray.swap i j (by simpa using hi') (by simpa using hj')) = (swapL xs i j xs[i] xs[j]).toArray := by
  simp [Array.swap, swapL]
 rw [e] at h
 simpa [Array.perm_iff_toList_perm] using h
theorem Rch.swap {a b i j : Nat} {xs : List KV} {x y : KV} (hi : xs[i]? = some x) (hj : xs[j]? = some y) (hij : i ≠ j) (h1 : a ≤ i) (h2 : i < b) (h3 : a ≤ j) (h4 : j < b) : Rch a b xs (swapL xs i j x y) := by
 have hi' := (List.getElem?_eq_some_iff.1 hi).1
 have hj' := (List.getElem?_eq_some_iff.1 hj).1
 refine ⟨by simp [swapL], swapL_perm hi hj, fun p hp => ?_, fun p p1 p2 p3 => ?_⟩
 ·rw [swapL_get hi' hj' hij, if_neg (by omega), if_neg (by omega)]
 ·rw [swapL_get hi' hj' hij]
  by_cases e1 : p = j
  ·rw [if_pos e1]; exact ⟨i, h1, h2, hi', hi.symm⟩
  ·rw [if_neg e1]
   by_cases e2 : p = i
   ·rw [if_pos e2]; exact ⟨j, h3, h4, hj', hj.symm⟩
   ·rw [if_neg e2]; exact ⟨p, p1, p2, p3, rfl⟩
theorem get_of_lt {xs : List KV} {i : Nat} (h : i < xs.length) : ∃ x, xs[i]? = some x := ⟨xs[i], List.getElem?_eq_getElem h⟩
theorem Rch.all {a b : Nat} {xs ys : List KV} (h : Rch a b xs ys) {P : KV → Prop} (hP : ∀ j x, a ≤ j → j < b → xs[j]? = some x → P x) : ∀ j x, a ≤ j → j < b → ys[j]? = some x → P x := by
 intro j x h1 h2 hx
 have hl := (List.getElem?_eq_some_iff.1 hx).1
 obtain ⟨i, i1, i2, i3, e⟩ := h.from_ j h1 h2 (by rw [← h.len]; exact hl)
 exact hP i x i1 i2 (e ▸ hx)
theorem SrtB.out {a b c d : Nat} {xs ys : List KV} (h : SrtB xs c d) (hr : Rch a b xs ys) (hd : d ≤ a ∨ b ≤ c) : SrtB ys c d := by
 intro i j x y h1 h2 h3 hx hy
 rw [hr.out i (by omega)] at hx
 rw [hr.out j (by omega)] at hy
 exact h i j x y h1 h2 h3 hx hy
theorem SrtB.join {a m b : Nat} {xs : List KV} (h : SrtB xs a m) (k : SrtB xs m b) (hx : ∀ i j x y, a ≤ i → i < m → m ≤ j → j < b → xs[i]? = some x → xs[j]? = some y → KV.lt x y) : SrtB xs a b := by
 intro i j x y h1 h2 h3 e1 e2
 by_cases hj : j < m
 ·exact h i j x y h1 h2 hj e1 e2
 ·by_cases hi : i < m
  ·exact hx i j x y h1 hi (by omega) h3 e1 e2
  ·exact k i j x y (by omega) h2 h3 e1 e2
theorem SrtB.le {a b i j : Nat} {xs : List KV} {x y : KV} (h : SrtB xs a b) (h1 : a ≤ i) (h2 : i ≤ j) (h3 : j < b) (hx : xs[i]? = some x) (hy : xs[j]? = some y) : x.key ≤ y.key := by
 by_cases e : i = j
 ·subst e; rw [hx] at hy; injection hy with hy; subst hy; exact Int.le_refl _
 ·have := h i j x y h1 (by omega) h3 hx hy
  unfold KV.lt at this; omega
def InsO (a b : Nat) (xs0 xs : List KV) (i : Nat) : Prop := Rch a b xs0 xs ∧ SrtB xs a i ∧ (∀ j, i ≤ j → xs[j]? = xs0[j]?) ∧ (∀ j x y, a ≤ j → j < i → xs[j]? = some x → ∀ q, i ≤ q → q < b → xs0[q]? = some y → x.ix < y.ix)
def InsI (a b : Nat) (xs0 xs : List KV) (i j : Nat) : Prop := Rch a b xs0 xs ∧ a ≤ j ∧ j ≤ i ∧ (∀ p, i < p → xs[p]? = xs0[p]?) ∧ xs[j]? = xs0[i]? ∧
 (∀ p q x y, a ≤ p → p < q → q ≤ i → p ≠ j → q ≠ j → xs[p]? = some x → xs[q]? = some y → KV.lt x y) ∧ (∀ q x y, j < q → q ≤ i → xs[j]? = some x → xs[q]? = some y → KV.lt x y) ∧
 (∀ p x y, a ≤ p → p ≤ i → p ≠ j → xs[p]? = some x → ∀ q, i ≤ q → q < b → xs0[q]? = some y → x.ix < y.ix)
theorem InsO.start {a b : Nat} {xs : List KV} (hix : IxB xs a b) (i : Nat) (hi : i ≤ a + 1) : InsO a b xs xs i := by
 refine ⟨Rch.refl _ _ _, fun p q x y h1 h2 h3 _ _ => by omega, fun _ _ => rfl, fun j x y h1 h2 hx q h3 h4 hy => hix j q x y h1 (by omega) h4 hx hy⟩
theorem InsO.go {a b i : Nat} {xs0 xs : List KV} (h : InsO a b xs0 xs i) (ha : a ≤ i) : InsI a b xs0 xs i i := by
 obtain ⟨h1, h2, h3, h4⟩ := h
 refine ⟨h1, ha, Nat.le_refl _, fun p hp => h3 p (by omega), h3 i (Nat.le_refl _), fun p q x y p1 p2 p3 p4 p5 hx hy => h2 p q x y p1 p2 (by omega) hx hy, fun q x y q1 q2 => by omega, fun p x y p1 p2 p3 hx q q1 q2 hy => h4 p x y p1 (by omega) hx q q1 q2 hy⟩
theorem InsI.down {a b i j : Nat} {xs0 xs : List KV} {x y : KV} (h : InsI a b xs0 xs i j) (hi : i < b) (hj : a < j) (hx : xs[j]? = some x) (hy : xs[j - 1]? = some y) (hlt : x.key < y.key) : InsI a b xs0 (swapL xs j (j - 1) x y) i (j - 1) := by
 obtain ⟨h1, h2, h3, h4, h5, h6, h7, h8⟩ := h
 have lx := (List.getElem?_eq_some_iff.1 hx).1
 have ly := (List.getElem?_eq_some_iff.1 hy).1
 have G := swapL_get (x := x) (y := y) lx ly (show j ≠ j - 1 by omega)
 refine ⟨h1.trans (Rch.swap hx hy (by omega) (by omega) (by omega) (by omega) (by omega)), by omega, by omega, fun p hp => ?_, ?_, ?_, ?_, ?_⟩
 ·rw [G, if_neg (by omega), if_neg (by omega)]; exact h4 p hp
 ·rw [G, if_pos rfl, ← h5, hx]
 ·intro p q u v p1 p2 p3 p4 p5 hu hv
  rw [G, if_neg p4] at hu
  rw [G, if_neg p5] at hv
  by_cases e1 : q = j
  ·subst e1
   rw [if_pos rfl] at hv; injection hv with hv; subst hv
   rw [if_neg (by omega)] at hu
   exact h6 p (q - 1) u y p1 (by omega) (by omega) (by omega) (by omega) hu hy
  ·rw [if_neg e1] at hv
   by_cases e2 : p = j
   ·subst e2
    rw [if_pos rfl] at hu; injection hu with hu; subst hu
    exact h6 (p - 1) q y v (by omega) (by omega) p3 (by omega) e1 hy hv
   ·rw [if_neg e2] at hu
    exact h6 p q u v p1 p2 p3 e2 e1 hu hv
 ·intro q u v q1 q2 hu hv
  rw [G, if_pos rfl] at hu; injection hu with hu; subst hu
  rw [G, if_neg (by omega)] at hv
  by_cases e1 : q = j
  ·rw [if_pos e1] at hv; injection hv with hv; subst hv; exact .inl hlt
  ·rw [if_neg e1] at hv
   exact h7 q x v (by omega) q2 hx hv
 ·intro p u v p1 p2 p3 hu q q1 q2 hv
  rw [G, if_neg p3] at hu
  by_cases e1 : p = j
  ·rw [if_pos e1] at hu; injection hu with hu; subst hu
   exact h8 (j - 1) y v (by omega) (by omega) (by omega) hy q q1 q2 hv
  ·rw [if_neg e1] at hu
   exact h8 p u v p1 p2 e1 hu q q1 q2 hv
theorem InsI.done {a b i j : Nat} {xs0 xs : List KV} (hix : IxB xs0 a b) (h : InsI a b xs0 xs i j) (hi : i < b) (hs : j = a ∨ ∃ x y, xs[j]? = some x ∧ xs[j - 1]? = some y ∧ ¬ x.key < y.key) : InsO a b xs0 xs (i + 1) := by
 obtain ⟨h1, h2, h3, h4, h5, h6, h7, h8⟩ := h
 refine ⟨h1, fun p q u v p1 p2 p3 hu hv => ?_, fun p hp => h4 p (by omega), fun p u v p1 p2 hu q q1 q2 hv => ?_⟩
 ·by_cases e1 : p = j
  ·subst e1; exact h7 q u v p2 (by omega) hu hv
  ·by_cases e2 : q = j
   ·subst e2
    rcases hs with hs | ⟨x, y, hx, hy, hn⟩
    ·omega
    ·rw [hx] at hv; injection hv with hv; subst hv
     have hxy : KV.lt y x := by
      have hxi : xs0[i]? = some x := by rw [← h5]; exact hx
      have := h8 (q - 1) y x (by omega) (by omega) (by omega) hy i (Nat.le_refl _) hi hxi
      unfold KV.lt; omega
     by_cases e3 : p = q - 1
     ·subst e3; rw [hy] at hu; injection hu with hu; subst hu; exact hxy
     ·exact KV.lt_trans (h6 p (q - 1) u y p1 (by omega) (by omega) e1 (by omega) hu hy) hxy
   ·exact h6 p q u v p1 p2 (by omega) e1 e2 hu hv
 ·by_cases e1 : p = j
  ·subst e1
   rw [h5] at hu
   exact hix i q u v (by omega) (by omega) q2 hu hv
  ·exact h8 p u v p1 (by omega) e1 hu q (by omega) q2 hv
end Go.Proofs.YtlmkokeapbleoaaGreat
