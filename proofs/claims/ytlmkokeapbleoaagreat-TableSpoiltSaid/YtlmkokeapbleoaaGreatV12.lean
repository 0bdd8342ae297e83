/- Contracts and plain laws that the proof leans on. Condition: as each theorem says. -/
import Derived.Test.YtlmkokeapbleoaaGreatV11
import Derived.Test.YtlmkokeapbleoaaGreatV08
import Derived.Test.YtlmkokeapbleoaaGreatV05
import Derived.Deep.AppendSrc
set_option maxRecDepth 100000
set_option maxHeartbeats 64000000
set_option linter.unusedVariables false
set_option linter.unusedSimpArgs false
namespace Go.Proofs.YtlmkokeapbleoaaGreat
open Go.RowKit
theorem infoHdc : (Tryz.prog.info? 103).map (fun i => (i.zero, i.size, i.bytes)) = some (some (.slice none 0 0), 1, 24) := by kernel_rfl
theorem infoIc : (Tryz.prog.info? 3).map (fun i => (i.zero, i.size, i.bytes)) = some (some (.int .i64 0), 1, 8) := by kernel_rfl
theorem info_u8c : (Tryz.prog.info? 5).map (·.size) = some 1 := by kernel_rfl
theorem sl_mono {w w' : World} {size n : Nat} {A : Option Addr} {xs : List Value} (h : Sl w size A n xs) (hm : ∀ b o v, w.cell? ⟨b, o, none⟩ = some v → (∀ x, v ≠ .int .u8 x) → w'.cell? ⟨b, o, none⟩ = some v) (hx : ∀ u ∈ xs, ∀ x, u ≠ .int .u8 x) : Sl w' size A n xs :=
 ⟨h.1, fun hn => by
  obtain ⟨b, off, e, hc⟩ := h.2 hn
  exact ⟨b, off, e, fun j u hu => hm _ _ _ (hc j u hu) (hx u (List.mem_of_getElem? hu))⟩⟩
theorem ll_mono {w w' : World} {A : Option Addr} {O : List (Item Sp)} (h : LL A O w) (hm : ∀ b o v, w.cell? ⟨b, o, none⟩ = some v → (∀ x, v ≠ .int .u8 x) → w'.cell? ⟨b, o, none⟩ = some v) : LL A O w' := by
 refine ⟨sl_mono h.sl hm fun u hu x e => ?_, fun i hi => ⟨sl_mono (h.it i hi).sp hm fun u hu x e => ?_, (h.it i hi).wd, (h.it i hi).len⟩⟩
 ·obtain ⟨i, _, rfl⟩ := List.mem_map.1 hu
  cases e
 ·unfold spanCells at hu
  obtain ⟨p, _, hp⟩ := List.mem_flatMap.1 hu
  subst e
  simp at hp
def RowsF (N : Nat) (l : List Int) (R : List (Item Int)) : Prop := R.length = N ∧ ∀ q : Nat, q < N → ∃ a c, R[q]? = some (a, c, rowF l q)
theorem RowsF.start (N : Nat) : RowsF N [] (List.replicate N (none, 0, [])) := ⟨by simp, fun q hq => ⟨none, 0, by rw [List.getElem?_replicate, if_pos hq]; rfl⟩⟩
theorem RowsF.step {N : Nat} {l : List Int} {R : List (Item Int)} (h : RowsF N l R) {q : Nat} {a : Option Addr} {c : Nat} (hq : q < N) : RowsF N (l ++ [(q : Int)]) (R.set q (a, c, rowF l q ++ [(l.length : Int)])) := by
 refine ⟨by rw [List.length_set]; exact h.1, fun p hp => ?_⟩
 rw [rowF_snoc]
 by_cases e : p = q
 ·subst e
  rw [if_pos rfl, List.getElem?_set_self (by rw [h.1]; exact hp)]
  exact ⟨_, _, rfl⟩
 ·rw [if_neg (by omega), List.getElem?_set_ne (fun h => e h.symm)]
  exact h.2 p hp
def famI (d : DescI) : List (Item Sp) := d.rs.flatMap (·.gs) ++ d.fs.flatMap (·.gs)
theorem flat_len {α : Type} {l : List α} {f : α → List (Item Sp)} (h : ∀ x ∈ l, (f x).length ≤ 4) : (l.flatMap f).length ≤ 4 * l.length := by
 induction l with
 | nil => simp
 | cons x l ih =>
  rw [List.flatMap_cons, List.length_append, List.length_cons]
  have := h x List.mem_cons_self
  have := ih fun y hy => h y (List.mem_cons_of_mem _ hy)
  omega
noncomputable def mkB1 (d : DescI) (n mb nb ab eb rb fb : Nat) (la : Option Addr) (lc : Nat) (P : List (List Sp)) (R1 R2 : List (Item Int)) : MkB := ⟨d, n, mb, nb, ab, eb, la, lc, P.map leastI, some ⟨rb, 0, none⟩, R1.length, R1, some ⟨fb, 0, none⟩, R2.length, R2, classes P 256, fun k => k < n⟩
theorem mkCells_mid (B : MkB) (V : MkV) {j : Nat} (hj : j < B.cls.length) : (mkCells B V)[13 + j]? = (B.cls.map (Value.int .u8))[j]? := by
 unfold mkCells
 rw [List.getElem?_append_right (by simp [mkHead]), List.getElem?_append_left (by simp [mkHead]; omega)]
 congr 1
 simp [mkHead]
theorem mk_mono {d : DescI} {n mb nb ab eb rb fb N : Nat} {cl : List Int} (hcl : cl.length = 256) {w4 w5 : World} (h4 : w4.heap[mb]? = some (.cells (mkCells (mkB0 d n mb nb ab eb rb fb N) mkV0).toArray 143 (0, 0)))
  (h5 : w5.heap[mb]? = some (.cells (mkCells { mkB0 d n mb nb ab eb rb fb N with cls := cl } mkV0).toArray 143 (0, 0))) {o : Nat} {v : Value} (hv : w4.cell? ⟨mb, o, none⟩ = some v) (hu : ∀ x, v ≠ .int .u8 x) : w5.cell? ⟨mb, o, none⟩ = some v := by
 have h0 : (mkB0 d n mb nb ab eb rb fb N).cls.length = 256 := List.length_replicate
 have hv2 : (mkCells (mkB0 d n mb nb ab eb rb fb N) mkV0)[o]? = some v := by simpa [World.cell?, h4] using hv
 have hgoal : (mkCells { mkB0 d n mb nb ab eb rb fb N with cls := cl } mkV0)[o]? = some v := by
  rcases Nat.lt_or_ge o 13 with h | h
  ·rw [mkCells_lo _ _ h] at hv2 ⊢
   exact hv2
  ·rcases Nat.lt_or_ge o 269 with h2 | h2
   ·obtain ⟨j, rfl⟩ : ∃ j, o = 13 + j := ⟨o - 13, by omega⟩
    rw [mkCells_mid _ _ (by omega), List.getElem?_map] at hv2
    cases hh : (mkB0 d n mb nb ab eb rb fb N).cls[j]? with
    | none => rw [hh] at hv2; cases hv2
    | some x => rw [hh] at hv2; injection hv2 with hv2; exact absurd hv2.symm (hu x)
   ·obtain ⟨j, rfl⟩ : ∃ j, o = 269 + j := ⟨o - 269, by omega⟩
    rw [mkCells_hi _ _ h0] at hv2
    rw [mkCells_hi _ _ hcl]
    exact hv2
 simp [World.cell?, h5, hgoal]
def RetCls (d : DescI) (n mb nb ab eb rb fb N : Nat) (W : World) (e : Ending) (W' : World) : Prop :=
 (splitL [(0, 255)] (bodies (famI d)) = none ∧ e = .returned (.int .i64 4) ∧ Hid (Below n W W')) ∨
 (∃ P la lc R1 R2, splitL [(0, 255)] (bodies (famI d)) = some P ∧ e = .returned (.int .i64 0) ∧ Hid (Mk (mkB1 d n mb nb ab eb rb fb la lc P R1 R2) mkV0 W') ∧ Hid (Below n W W') ∧ Hid (RowsF N (d.rs.map (·.fr)) R1) ∧ Hid (RowsF N (d.fs.map (·.fr)) R2))
theorem classes_mk (W : World) (d : DescI) (n mb nb ab eb rb fb N : Nat) (hS : Hid (MkS d n mb nb ab eb rb fb N W)) (hD : Hid (∀ W', Below n W W' → DescW d W')) (hrl : d.rs.length ≤ 4096) (hfl : d.fs.length ≤ 4096)
  (hr : Hid (∀ r ∈ d.rs, 0 ≤ r.fr ∧ r.fr < N ∧ r.gs.length ≤ 4)) (hf : Hid (∀ r ∈ d.fs, 0 ≤ r.fr ∧ r.fr < N ∧ r.gs.length ≤ 4)) (hN : N ≤ 1024) (hnW : n ≤ W.heap.size)
  (hcnt : Hid (∀ P, splitL [(0, 255)] (bodies (famI d)) = some P → P.length ≤ 256 ∧ ∀ i : Nat, i < 256 → 0 ≤ classI P i)) :
  Calls Tryz.prog 73 #[.pointer (some ⟨mb, 0, none⟩)] W (RetCls d n mb nb ab eb rb fb N W) := by
 obtain ⟨i0, hi, hz0, hz1, hz2⟩ := info_parts infoHdc
 obtain ⟨j0, ji, jz0, jz1, jz2⟩ := info_parts infoIc
 obtain ⟨ra, hra⟩ : ∃ z, d.ra = z := ⟨_, rfl⟩
 obtain ⟨fa, hfa⟩ : ∃ z, d.fa = z := ⟨_, rfl⟩
 obtain ⟨rsl, hrsl⟩ : ∃ z, d.rs.length = z := ⟨_, rfl⟩
 have HRA := Lh hra
 have HFA := Lh hfa
 have HRSL := Lh hrsl
 have hrsl4 : rsl ≤ 4096 := by omega
 obtain ⟨B0, hB0⟩ : ∃ z, mkB0 d n mb nb ab eb rb fb N = z := ⟨_, rfl⟩
 have HB0 := Lh hB0
 have HBOX : Hid (∀ W' : World, W'.heap[mb]? = W.heap[mb]? → ∀ (i : Nat) v, i < 13 → (mkHead (mkB0 d n mb nb ab eb rb fb N) mkV0)[i]? = some v → W'.cell? ⟨mb, i, none⟩ = some v) := Lh fun W' hW i v hi hv => by
  have h2 := hW.trans hS.out.box
  have h3 := (mkCells_lo (mkB0 d n mb nb ab eb rb fb N) mkV0 hi).trans hv
  simp [World.cell?, h2, h3]
 have hm4 := HBOX.out W rfl 4 _ (by decide) rfl
 rw [show (mkB0 d n mb nb ab eb rb fb N).d = d from rfl, hra, hrsl] at hm4
 have hmr : mb ≠ rb := fun e => by
  have h1 := hS.out.box; have h2 := hS.out.rws.blk
  rw [e, h2] at h1
  injection h1 with h1; injection h1 with _ h1
  exact absurd h1 (by decide)
 have HMR := Lh hmr
 clear hra hfa hrsl hB0 hmr
 go_enter Tryz.func73, Tryz.ntmps73
 go_wp2_with fail
 clear hm4
 go_loopw [3, 17] (fun fv iv wr => ∃ (k : Nat) (A : Option Addr) (c : Nat) (R : List (Item Int)), k ≤ rsl ∧ iv = .int .i64 k ∧ fv = .slice A ((d.rs.take k).flatMap (·.gs)).length c ∧ Hid (Cl W wr n W.heap.size rb none A c ((d.rs.take k).flatMap (·.gs)) R) ∧ Hid (RowsF N ((d.rs.map (·.fr)).take k) R)) (fun _ iv _ => rsl - (intOf iv).toNat)
 case atStart => exact ⟨0, none, 0, _, Nat.zero_le _, rfl, rfl, Lh ⟨Below.refl _ _, fun _ _ _ _ => rfl, World.ownsRow_nil _ _ _ _, fun g hg => (by cases hg), hS.out.rws.re fun x hx => by obtain ⟨_, rfl⟩ := List.mem_replicate.1 hx; rfl⟩, Lh (RowsF.start N)⟩
 case round =>
 obtain ⟨k, A, c, R, hk, rfl, rfl, HC, HR⟩ := hrel
 by_cases hlt : k < rsl
 ·have hlt2 : k < d.rs.length := by rw [HRSL.out]; exact hlt
  obtain ⟨rb2, off, r, hra2, hx, hw, hd0, hd1, hd2, hd3, hd4⟩ := (hD.out _ HC.out.bel).rules.at_ hlt2
  obtain rfl : ra = some ⟨rb2, off, none⟩ := HRA.out.symm.trans hra2
  have hrm := List.mem_of_getElem? hx
  obtain ⟨h0, h1, h4⟩ := hr.out r hrm
  obtain ⟨q, hq⟩ := Int.eq_ofNat_of_zero_le h0
  have hqN : q < N := by omega
  obtain ⟨a, ca, hRq⟩ := HR.out.2 q hqN
  have hsl : ∀ W', Below n W W' → Sl W' 1 r.ga r.gs.length (icells r.gs) := fun W' hW => ((hD.out W' hW).rules.it r hrm).2.1.1.sl
  obtain ⟨O, hO⟩ : ∃ z, (d.rs.take k).flatMap (·.gs) = z := ⟨_, rfl⟩
  have hOl : O.length ≤ 16384 := by
   rw [← hO]
   have h5 := flat_len (l := d.rs.take k) (f := (·.gs)) fun x hx => (hr.out x (List.mem_of_mem_take hx)).2.2
   rw [List.length_take] at h5
   omega
  rw [hO] at HC ⊢
  rw [hq] at hd0
  have HX := Lh hx
  have HW := Lh hw
  have HQ := Lh hq
  have HSL := Lh hsl
  have HO := Lh hO
  have HRQ := Lh hRq
  have HLT := Lh hlt
  have hkl : (k : Int) < (rsl : Int) := by omega
  have hk0 : (0 : Int) ≤ (k : Int) := by omega
  clear hra2 hx hw hq hsl hO hRq hlt hlt2 h0 h1 hrm
  obtain ⟨xb, hxb⟩ : ∃ z, wr.heap.size = z := ⟨_, rfl⟩
  have hws := HC.out.bel.size
  have hWn : n ≤ W.heap.size := hnW
  obtain ⟨w1, hw1⟩ : ∃ z, wr.alloc (.cells #[.int .i64 (q : Int), .int .i64 r.dst, .slice r.ga r.gs.length r.gc, .int .i64 r.e, .slice r.o.a r.o.l.length r.o.c] 102) = z := ⟨_, rfl⟩
  have hb1 : Below wr.heap.size wr w1 := by rw [← hw1]; exact (Below.refl _ _).alloc (Nat.le_refl _) _
  have hs1 : w1.heap.size = xb + 1 := by rw [← hw1, ← hxb]; simp
  have hx1 : w1.heap[xb]? = some (.cells #[.int .i64 (q : Int), .int .i64 r.dst, .slice r.ga r.gs.length r.gc, .int .i64 r.e, .slice r.o.a r.o.l.length r.o.c] 102 (0, 0)) := by rw [← hw1, ← hxb]; exact heap_alloc_new wr _
  have hfam1 : w1.ownsRow W.heap.size 103 1 (.slice A O.length c) O.length (icells O) := own_keep HC.out.fam fun k hk => hb1.block k (own_ty HC.out.fam hk).2.1
  have hsl1 := HSL.out w1 (HC.out.bel.trans (hb1.mono (by omega)))
  have hg1 : w1.cell? ⟨xb, 2, none⟩ = some (.slice r.ga r.gs.length r.gc) := by simp [World.cell?, hx1]
  have HFAM1 := Lh hfam1
  have HSL1 := Lh hsl1
  have HS1 := Lh hs1
  have HX1 := Lh hx1
  have HB1 := Lh hb1
  have HXB := Lh hxb
  have HW1 := Lh hw1
  have hW1 : W.heap.size ≤ w1.heap.size := by omega
  have h63 : O.length + r.gs.length ≤ maxLen := by unfold maxLen; omega
  have hby : (O.length + r.gs.length) * 24 ≤ 140737488355328 := by omega
  have hone := icells_one r.gs
  clear hfam1 hsl1 hs1 hb1
  go_wp2_with (at_builtin; go_must (refine wpList_append_slN _ rfl _ _ 29 rfl W.heap.size 103 i0 _ 1 24 Tryz.underlying29 hi hz0 hz1 hz2 rfl (by decide) HFAM1.out rfl HSL1.out rfl hone h63 hby hW1 ?_); intro A2 c2 w2 HO2 HG2 HN2)
  have HG2' : Hid ((wr.alloc (.cells #[.int .i64 (q : Int), .int .i64 r.dst, .slice r.ga r.gs.length r.gc, .int .i64 r.e, .slice r.o.a r.o.l.length r.o.c] 102)).grownBy w2 (ownA A)) := Lh (by rw [HW1.out]; exact HG2.out)
  have hs2 := HG2.out.size
  have hAr : ownA A ≠ some rb := own_ne_cells HC.out.fam HC.out.rw.blk tyHR
  have hAx : ownA A ≠ some xb := fun e => by have := (own_ty HC.out.fam e).2.1; have := HXB.out; omega
  have hAm : ownA A ≠ some mb := fun e => by
   have h1 := (own_ty HC.out.fam e).1
   have h2 := (Array.getElem?_eq_some_iff.1 hS.out.box).1
   omega
  obtain ⟨w3, hw3⟩ : ∃ z, w2.drew = z := ⟨_, rfl⟩
  have hh3 : w3.heap = w2.heap := by rw [← hw3]; rfl
  have hmW : mb < W.heap.size := (Array.getElem?_eq_some_iff.1 hS.out.box).1
  have hrW : rb < W.heap.size := hS.out.rws.lt
  have hm3 : w3.heap[mb]? = W.heap[mb]? := by
   rw [hh3]
   exact (HG2.out.block _ (by omega) (fun e => hAm e.symm)).trans ((HB1.out.block _ (by omega)).trans (HC.out.blk _ hmW HMR.out (fun e => by cases e)))
  have hr3 : w3.heap[rb]? = wr.heap[rb]? := by
   rw [hh3]
   exact (HG2.out.block _ (by omega) (fun e => hAr e.symm)).trans (HB1.out.block _ (by omega))
  have hx3 : w3.heap[xb]? = w1.heap[xb]? := by
   rw [hh3]
   exact HG2.out.block _ (by have := HS1.out; omega) (fun e => hAx e.symm)
  have hc7 : ∀ w' : World, w'.heap[mb]? = W.heap[mb]? → w'.cell? ⟨mb, 7, none⟩ = some (.slice (some ⟨rb, 0, none⟩) N N) := fun w' h => by
   have := HBOX.out w' h 7 _ (by decide) rfl
   simpa [mkB0] using this
  have hcx : ∀ w' : World, w'.heap[xb]? = w1.heap[xb]? → w'.cell? ⟨xb, 0, none⟩ = some (.int .i64 (q : Int)) := fun w' h => by
   have h2 := h.trans HX1.out
   simp [World.cell?, h2]
  obtain ⟨l, hl⟩ : ∃ z, rowF ((d.rs.map (·.fr)).take k) q = z := ⟨_, rfl⟩
  have hRq := HRQ.out
  rw [hl] at hRq
  have hcr : ∀ w' : World, w'.heap[rb]? = wr.heap[rb]? → w'.cell? ⟨rb, q, none⟩ = some (.slice a l.length ca) ∧ w'.frozen? ⟨rb, q, none⟩ = false := fun w' h => by
   have h2 := HC.out.rw.cell hRq
   have h3 := h.trans HC.out.rw.blk
   exact ⟨(World.cell?_of_block (w := wr) (a := ⟨rb, q, none⟩) h).trans h2.1, by simp [World.frozen?, h3]⟩
  have hll : l.length ≤ 4096 := by
   rw [← hl]
   have h5 := rowF_len ((d.rs.map (·.fr)).take k) q
   rw [List.length_take, List.length_map] at h5
   omega
  have HC7 := Lh hc7
  have HCX := Lh hcx
  have HCR := Lh hcr
  have HLL := Lh hl
  have HRQ2 := Lh hRq
  have HH3 := Lh hh3
  have HM3 := Lh hm3
  have HR3 := Lh hr3
  have HX3 := Lh hx3
  have h3a := hc7 w3 hm3
  have h3b := hcx w3 hx3
  have h3c := (hcr w3 hr3).1
  have hqN1 : (q : Int) < (N : Int) := by omega
  have hq0 : (0 : Int) ≤ (q : Int) := by omega
  clear hc7 hcx hcr hl hRq hh3 hm3 hr3 hx3
  refine wp_region_Z 18 (by kernel_rfl) (fun V' => V'.cell? ⟨mb, 7, none⟩ = some (.slice (some ⟨rb, 0, none⟩) N N) ∧ V'.cell? ⟨xb, 0, none⟩ = some (.int .i64 (q : Int)) ∧ V'.cell? ⟨rb, q, none⟩ = some (.slice a l.length ca)) (by rw [hw3]; exact ⟨h3a, h3b, h3c⟩) (fun hHeld => ?_)
  refine zt (v := ?_) 0 rfl ?_ ?_
  rotate_left
  ·intro w hSw; (try dsimp only at hSw); go_simp; (try with_reducible rfl)
  (try simp only [Act.put, zq1, zq2, zq3, zq4, zq5, zq6])
  refine zt (v := ?_) 1 rfl ?_ ?_
  rotate_left
  ·intro w hSw; (try dsimp only at hSw); go_simp; (try with_reducible rfl)
  (try simp only [Act.put, zq1, zq2, zq3, zq4, zq5, zq6])
  refine zt (v := ?_) 2 rfl ?_ ?_
  rotate_left
  ·intro w hSw; (try dsimp only at hSw); go_simp; (try with_reducible rfl)
  (try simp only [Act.put, zq1, zq2, zq3, zq4, zq5, zq6])
  refine zt (v := ?_) 3 rfl ?_ ?_
  rotate_left
  ·intro w hSw; (try dsimp only at hSw); go_simp; (try with_reducible rfl)
  (try simp only [Act.put, zq1, zq2, zq3, zq4, zq5, zq6])
  refine zt (v := ?_) 4 rfl ?_ ?_
  rotate_left
  ·intro w hSw; (try dsimp only at hSw); go_simp; (try with_reducible rfl)
  (try simp only [Act.put, zq1, zq2, zq3, zq4, zq5, zq6])
  refine zt (v := ?_) 5 rfl ?_ ?_
  rotate_left
  ·intro w hSw; (try dsimp only at hSw); go_simp; (try with_reducible rfl)
  (try simp only [Act.put, zq1, zq2, zq3, zq4, zq5, zq6])
  refine zt (v := ?_) 6 rfl ?_ ?_
  rotate_left
  ·intro w hSw; (try dsimp only at hSw); go_simp; (try with_reducible rfl)
  (try simp only [Act.put, zq1, zq2, zq3, zq4, zq5, zq6])
  refine zt (v := ?_) 7 rfl ?_ ?_
  rotate_left
  ·intro w hSw; (try dsimp only at hSw); go_simp; (try with_reducible rfl)
  (try simp only [Act.put, zq1, zq2, zq3, zq4, zq5, zq6])
  refine zt (v := ?_) 8 rfl ?_ ?_
  rotate_left
  ·intro w hSw; (try dsimp only at hSw); go_simp; (try with_reducible rfl)
  (try simp only [Act.put, zq1, zq2, zq3, zq4, zq5, zq6])
  refine zt (v := ?_) 9 rfl ?_ ?_
  rotate_left
  ·intro w hSw; (try dsimp only at hSw); go_simp; (try with_reducible rfl)
  (try simp only [Act.put, zq1, zq2, zq3, zq4, zq5, zq6])
  refine zt (v := ?_) 10 rfl ?_ ?_
  rotate_left
  ·intro w hSw; (try dsimp only at hSw); go_simp; (try with_reducible rfl)
  (try simp only [Act.put, zq1, zq2, zq3, zq4, zq5, zq6])
  refine zt (v := ?_) 11 rfl ?_ ?_
  rotate_left
  ·intro w hSw; (try dsimp only at hSw); go_simp; (try with_reducible rfl)
  (try simp only [Act.put, zq1, zq2, zq3, zq4, zq5, zq6])
  refine zt (v := ?_) 12 rfl ?_ ?_
  rotate_left
  ·intro w hSw; (try dsimp only at hSw); go_simp; (try with_reducible rfl)
  (try simp only [Act.put, zq1, zq2, zq3, zq4, zq5, zq6])
  refine zt (v := ?_) 13 rfl ?_ ?_
  rotate_left
  ·intro w hSw; (try dsimp only at hSw); go_simp; (try with_reducible rfl)
  (try simp only [Act.put, zq1, zq2, zq3, zq4, zq5, zq6])
  refine zt (v := ?_) 14 rfl ?_ ?_
  rotate_left
  ·intro w hSw; (try dsimp only at hSw); go_simp; (try with_reducible rfl)
  (try simp only [Act.put, zq1, zq2, zq3, zq4, zq5, zq6])
  rw [hw3]
  refine zr 15 rfl fun K hK => ?_
  go_simp
  refine hK.out _ _ (⟨cellAl _ h3a, cellAl _ h3b, cellAl _ h3c⟩) (fun hHeld => ?_)
  clear hK K
  (try simp only [Act.put, zq1, zq2, zq3, zq4, zq5, zq6])
  have HOR : Hid (w3.ownsRow W.heap.size 3 1 (.slice a l.length ca) l.length (l.map (Value.int .i64))) := Lh (own_keep (HC.out.rw.own q _ HRQ2.out) fun j hj => by
   have ht := own_ty (HC.out.rw.own q _ HRQ2.out) hj
   rw [HH3.out]
   exact (HG2.out.block _ (by have := HS1.out; have := ht.2.1; have := HXB.out; omega) (fun e => own_apart (HC.out.rw.own q _ HRQ2.out) HC.out.fam (fun e => tyHI e.symm) j hj e.symm)).trans (HB1.out.block _ ht.2.1))
  have hl40 : l.length < 1099511627776 := by omega
  have hW3 : W.heap.size ≤ w3.heap.size := by rw [HH3.out]; omega
  refine zr 16 rfl fun K hK => ?_
  refine step_pushG rfl _ _ 62 rfl W.heap.size 3 j0 _ 1 8 Tryz.underlying62 ji jz0 jz1 jz2 rfl (by decide) HOR.out rfl [.int .i64 (k : Int)] 3 rfl rfl (by simp [Value.oneCell']) hl40 (by decide) hW3 ?_
  intro A9 c9 w9 HO9 HG9 HN9
  have h2s : w3.heap.size = w2.heap.size := by rw [HH3.out]
  have hge : ∀ j, ownA a = some j → W.heap.size ≤ j ∧ j < wr.heap.size := fun j hj => let t := own_ty (HC.out.rw.own q _ HRQ2.out) hj; ⟨t.1, t.2.1⟩
  have hgo : ∀ j, j < w3.heap.size → ownA a ≠ some j → w9.heap[j]? = w3.heap[j]? := fun j hj hne => (HG9.out.block _ (by simp; omega) (fun e => hne e.symm)).trans (Below.heap_alloc _ _ _ hj)
  have h9m := (hgo mb (by omega) (fun e => by have := (hge _ e).1; omega)).trans HM3.out
  have h9r := (hgo rb (by omega) (fun e => by have := (hge _ e).1; omega)).trans HR3.out
  have h9x := (hgo xb (by have := HS1.out; omega) (fun e => by have := (hge _ e).2; have := HXB.out; omega)).trans HX3.out
  have h9a := HC7.out w9 h9m
  have h9b := HCX.out w9 h9x
  have h9c := HCR.out w9 h9r
  refine hK.out _ _ (⟨h9a, h9b, h9c.1⟩) (fun hHeld => ?_)
  clear hK K
  (try simp only [Act.put, zq1, zq2, zq3, zq4, zq5, zq6])
  refine zt (v := ?_) 17 rfl ?_ ?_
  rotate_left
  ·intro w hSw; (try dsimp only at hSw); go_simp; (try with_reducible rfl)
  (try simp only [Act.put, zq1, zq2, zq3, zq4, zq5, zq6])
  have h9d := h9c.1
  have h9f := h9c.2
  refine wpAnyZ_last (i := 18) rfl (by kernel_rfl) (by kernel_rfl) rfl (fun K hK => ?_)
  go_simp
  refine hK.out _ _ ?_
  have HCN : Hid (Cl W (w9.setCell ⟨rb, q, none⟩ (.slice A9 (l.length + 1) c9)) n W.heap.size rb none A2 c2 ((d.rs.take (k + 1)).flatMap (·.gs)) (R.set q (A9, c9, rowF ((d.rs.map (·.fr)).take k) q ++ [(((d.rs.map (·.fr)).take k).length : Int)]))) := Lh (by
   have hkl2 : ((d.rs.map (·.fr)).take k).length = k := by
    have h1 := (List.getElem?_eq_some_iff.1 HX.out).1
    rw [List.length_take, List.length_map]; omega
   rw [HLL.out, hkl2, take_snoc? HX.out, List.flatMap_append, HO.out]
   have e1 : ([r].flatMap (·.gs)) = r.gs := by simp
   rw [e1]
   exact HC.out.step (nq := 1) hnW (Nat.le_refl _) hS.out.lo.2.2.2.2.1 hS.out.rws.lt HO2.out HG2'.out (by
    rcases HN2.out with e | ⟨g, e, hg⟩
    ·exact .inl e
    ·exact .inr ⟨g, e, by have := HS1.out; have := HXB.out; omega⟩) HRQ2.out (by have := HRSL.out; have := HLT.out; unfold I64; omega) HO9.out (by
     have e : w2.drewN 1 = w3 := hw3
     rw [e]; exact HG9.out) (by rw [← h2s]; exact HN9.out))
  have HRN : Hid (RowsF N ((d.rs.map (·.fr)).take (k + 1)) (R.set q (A9, c9, rowF ((d.rs.map (·.fr)).take k) q ++ [(((d.rs.map (·.fr)).take k).length : Int)]))) := Lh (by
   have e : (d.rs.map (·.fr))[k]? = some (q : Int) := by rw [List.getElem?_map, HX.out, Option.map_some, HQ.out]
   rw [take_snoc? e]
   exact HR.out.step (by omega))
  have HLEN : Hid (((d.rs.take (k + 1)).flatMap (·.gs)).length = O.length + r.gs.length) := Lh (by rw [take_snoc? HX.out, List.flatMap_append, HO.out]; simp)
  clear hHeld hK K h9m h9r h9x h9a h9b h9c h9d h9f hge hgo hw3 h3a h3b h3c hs2 h2s hAr hAx hAm hmW hrW
  (try simp only [Act.put, zq1, zq2, zq3, zq4, zq5, zq6])
  go_wp2_with fail
  go_roundw
  case rel => exact ⟨k + 1, A2, c2, _, by have := HLT.out; omega, by go_num, by rw [HLEN.out], HCN, HRN⟩
  case measure => have := HLT.out; simp [intOf]; omega
 obtain rfl : k = rsl := by omega
 have hd : decide (k < k) = false := by simp
 obtain ⟨wD, hwD⟩ : ∃ z, z = wr := ⟨_, rfl⟩
 obtain ⟨A0, hA0⟩ : ∃ z, z = A := ⟨_, rfl⟩
 have hmW : mb < W.heap.size := (Array.getElem?_eq_some_iff.1 hS.out.box).1
 have hmD : wr.heap[mb]? = W.heap[mb]? := HC.out.blk _ hmW HMR.out (fun e => by cases e)
 have hfD : wr.heap[fb]? = W.heap[fb]? := HC.out.blk _ hS.out.fns.lt hS.out.dis.2.2.2.symm (fun e => by cases e)
 have HA0M : Hid (ownA A ≠ some mb) := Lh fun e => by
  have h1 := (own_ty HC.out.fam e).1
  omega
 have HMF : Hid (mb ≠ fb) := Lh fun e => by
  have h1 := hS.out.box; have h2 := hS.out.fns.blk
  rw [e, h2] at h1
  injection h1 with h1; injection h1 with _ h1
  exact absurd h1 (by decide)
 have HMD := Lh hmD
 have HFN0 : Hid (RwI fb wr.heap.size (List.replicate N (none, 0, [])) wr) := Lh (by
  have h0 : ∀ x ∈ (List.replicate N ((none, 0, []) : Item Int)), x.1 = none := fun x hx => by obtain ⟨_, rfl⟩ := List.mem_replicate.1 hx; rfl
  refine RwI.keep (V := W) (hS.out.fns.re h0) hfD fun j h1 h2 _ => ?_
  have := HC.out.bel.size
  omega)
 obtain ⟨O1, hO1⟩ : ∃ z, (d.rs.take k).flatMap (·.gs) = z := ⟨_, rfl⟩
 have hO1l : O1.length ≤ 16384 := by
  rw [← hO1]
  have h5 := flat_len (l := d.rs.take k) (f := (·.gs)) fun x hx => (hr.out x (List.mem_of_mem_take hx)).2.2
  rw [List.length_take] at h5
  omega
 rw [hO1] at HC
 have HO1 := Lh hO1
 have hm5 := HBOX.out wr hmD 5 _ (by decide) rfl
 obtain ⟨fsl, hfsl⟩ : ∃ z, d.fs.length = z := ⟨_, rfl⟩
 rw [show (mkB0 d n mb nb ab eb rb fb N).d = d from rfl, HFA.out, hfsl] at hm5
 have HFSL := Lh hfsl
 have hfsl4 : fsl ≤ 4096 := by omega
 have HC1 := HC
 have HR1 := HR
 have HBW : Hid (Below n W wr) := Lh HC.out.bel
 obtain ⟨R1, hR1⟩ : ∃ z, z = R := ⟨_, rfl⟩
 rw [← hR1] at HC1 HR1
 clear hmW hmD hfD hO1 hfsl hlt
 (try rw [HO1.out])
 go_wp2_with fail
 clear hm5 hd
 subst hwD hA0 hR1
 go_loopw [3, 51] (fun fv iv wr => ∃ (k : Nat) (A : Option Addr) (c : Nat) (R : List (Item Int)), k ≤ fsl ∧ iv = .int .i64 k ∧ fv = .slice A (O1 ++ (d.fs.take k).flatMap (·.gs)).length c ∧ Hid (Cl wD wr n W.heap.size fb A0 A c (O1 ++ (d.fs.take k).flatMap (·.gs)) R) ∧ Hid (RowsF N ((d.fs.map (·.fr)).take k) R)) (fun _ iv _ => fsl - (intOf iv).toNat)
 case atStart => exact ⟨0, A0, c, _, Nat.zero_le _, rfl, by simp, Lh ⟨Below.refl _ _, fun _ _ _ _ => rfl, by simpa using HC1.out.fam, fun g hg => .inl hg, HFN0.out⟩, Lh (RowsF.start N)⟩
 case round =>
 obtain ⟨k2, A, c2', R, hk2, rfl, rfl, HC, HR⟩ := hrel
 by_cases hlt : k2 < fsl
 ·have hlt2 : k2 < d.fs.length := by rw [HFSL.out]; exact hlt
  obtain ⟨rb2, off, r, hra2, hx, hw, hd0, hd1, hd2⟩ := (hD.out _ (HBW.out.trans HC.out.bel)).fins.at_ hlt2
  obtain rfl : fa = some ⟨rb2, off, none⟩ := HFA.out.symm.trans hra2
  have hrm := List.mem_of_getElem? hx
  obtain ⟨h0, h1, h4⟩ := hf.out r hrm
  obtain ⟨q, hq⟩ := Int.eq_ofNat_of_zero_le h0
  have hqN : q < N := by omega
  obtain ⟨a, ca, hRq⟩ := HR.out.2 q hqN
  have hsl : ∀ W', Below n W W' → Sl W' 1 r.ga r.gs.length (icells r.gs) := fun W' hW => ((hD.out W' hW).fins.it r hrm).2.1.1.sl
  obtain ⟨O, hO⟩ : ∃ z, O1 ++ (d.fs.take k2).flatMap (·.gs) = z := ⟨_, rfl⟩
  have hOl : O.length ≤ 32768 := by
   rw [← hO, List.length_append]
   have h5 := flat_len (l := d.fs.take k2) (f := (·.gs)) fun x hx => (hf.out x (List.mem_of_mem_take hx)).2.2
   rw [List.length_take] at h5
   omega
  rw [hO] at HC ⊢
  rw [hq] at hd0
  have HX := Lh hx
  have HW := Lh hw
  have HQ := Lh hq
  have HSL := Lh hsl
  have HO := Lh hO
  have HRQ := Lh hRq
  have HLT := Lh hlt
  have hkl : (k2 : Int) < (fsl : Int) := by omega
  have hk0 : (0 : Int) ≤ (k2 : Int) := by omega
  clear hra2 hx hw hq hsl hO hRq hlt hlt2 h0 h1 hrm
  obtain ⟨xb, hxb⟩ : ∃ z, wr.heap.size = z := ⟨_, rfl⟩
  have hws := HC.out.bel.size
  have hWn : n ≤ wD.heap.size := by have := HBW.out.size; omega
  have hWD := HBW.out.size
  obtain ⟨w1, hw1⟩ : ∃ z, wr.alloc (.cells #[.int .i64 (q : Int), .slice r.ga r.gs.length r.gc, .slice r.o.a r.o.l.length r.o.c] 134) = z := ⟨_, rfl⟩
  have hb1 : Below wr.heap.size wr w1 := by rw [← hw1]; exact (Below.refl _ _).alloc (Nat.le_refl _) _
  have hs1 : w1.heap.size = xb + 1 := by rw [← hw1, ← hxb]; simp
  have hx1 : w1.heap[xb]? = some (.cells #[.int .i64 (q : Int), .slice r.ga r.gs.length r.gc, .slice r.o.a r.o.l.length r.o.c] 134 (0, 0)) := by rw [← hw1, ← hxb]; exact heap_alloc_new wr _
  have hfam1 : w1.ownsRow W.heap.size 103 1 (.slice A O.length c2') O.length (icells O) := own_keep HC.out.fam fun k hk => hb1.block k (own_ty HC.out.fam hk).2.1
  have hsl1 := HSL.out w1 (HBW.out.trans (HC.out.bel.trans (hb1.mono (by omega))))
  have hg1 : w1.cell? ⟨xb, 1, none⟩ = some (.slice r.ga r.gs.length r.gc) := by simp [World.cell?, hx1]
  have HFAM1 := Lh hfam1
  have HSL1 := Lh hsl1
  have HS1 := Lh hs1
  have HX1 := Lh hx1
  have HB1 := Lh hb1
  have HXB := Lh hxb
  have HW1 := Lh hw1
  have hW1 : W.heap.size ≤ w1.heap.size := by omega
  have h63 : O.length + r.gs.length ≤ maxLen := by unfold maxLen; omega
  have hby : (O.length + r.gs.length) * 24 ≤ 140737488355328 := by omega
  have hone := icells_one r.gs
  clear hfam1 hsl1 hs1 hb1
  go_wp2_with (at_builtin; go_must (refine wpList_append_slN _ rfl _ _ 29 rfl W.heap.size 103 i0 _ 1 24 Tryz.underlying29 hi hz0 hz1 hz2 rfl (by decide) HFAM1.out rfl HSL1.out rfl hone h63 hby hW1 ?_); intro A2 c2 w2 HO2 HG2 HN2)
  have HG2' : Hid ((wr.alloc (.cells #[.int .i64 (q : Int), .slice r.ga r.gs.length r.gc, .slice r.o.a r.o.l.length r.o.c] 134)).grownBy w2 (ownA A)) := Lh (by rw [HW1.out]; exact HG2.out)
  have hs2 := HG2.out.size
  have hAr : ownA A ≠ some fb := own_ne_cells HC.out.fam HC.out.rw.blk tyHR
  have hAx : ownA A ≠ some xb := fun e => by have := (own_ty HC.out.fam e).2.1; have := HXB.out; omega
  have hAm : ownA A ≠ some mb := fun e => by
   have h1 := (own_ty HC.out.fam e).1
   have h2 := (Array.getElem?_eq_some_iff.1 hS.out.box).1
   omega
  obtain ⟨w3, hw3⟩ : ∃ z, w2.drew = z := ⟨_, rfl⟩
  have hh3 : w3.heap = w2.heap := by rw [← hw3]; rfl
  have hmW : mb < W.heap.size := (Array.getElem?_eq_some_iff.1 hS.out.box).1
  have hrW : fb < W.heap.size := hS.out.fns.lt
  have hm3 : w3.heap[mb]? = W.heap[mb]? := by
   rw [hh3]
   exact (HG2.out.block _ (by omega) (fun e => hAm e.symm)).trans ((HB1.out.block _ (by omega)).trans ((HC.out.blk _ (by omega) HMF.out HA0M.out).trans HMD.out))
  have hr3 : w3.heap[fb]? = wr.heap[fb]? := by
   rw [hh3]
   exact (HG2.out.block _ (by omega) (fun e => hAr e.symm)).trans (HB1.out.block _ (by omega))
  have hx3 : w3.heap[xb]? = w1.heap[xb]? := by
   rw [hh3]
   exact HG2.out.block _ (by have := HS1.out; omega) (fun e => hAx e.symm)
  have hc7 : ∀ w' : World, w'.heap[mb]? = W.heap[mb]? → w'.cell? ⟨mb, 8, none⟩ = some (.slice (some ⟨fb, 0, none⟩) N N) := fun w' h => by
   have := HBOX.out w' h 8 _ (by decide) rfl
   simpa [mkB0] using this
  have hcx : ∀ w' : World, w'.heap[xb]? = w1.heap[xb]? → w'.cell? ⟨xb, 0, none⟩ = some (.int .i64 (q : Int)) := fun w' h => by
   have h2 := h.trans HX1.out
   simp [World.cell?, h2]
  obtain ⟨l, hl⟩ : ∃ z, rowF ((d.fs.map (·.fr)).take k2) q = z := ⟨_, rfl⟩
  have hRq := HRQ.out
  rw [hl] at hRq
  have hcr : ∀ w' : World, w'.heap[fb]? = wr.heap[fb]? → w'.cell? ⟨fb, q, none⟩ = some (.slice a l.length ca) ∧ w'.frozen? ⟨fb, q, none⟩ = false := fun w' h => by
   have h2 := HC.out.rw.cell hRq
   have h3 := h.trans HC.out.rw.blk
   exact ⟨(World.cell?_of_block (w := wr) (a := ⟨fb, q, none⟩) h).trans h2.1, by simp [World.frozen?, h3]⟩
  have hll : l.length ≤ 4096 := by
   rw [← hl]
   have h5 := rowF_len ((d.fs.map (·.fr)).take k2) q
   rw [List.length_take, List.length_map] at h5
   omega
  have HC7 := Lh hc7
  have HCX := Lh hcx
  have HCR := Lh hcr
  have HLL := Lh hl
  have HRQ2 := Lh hRq
  have HH3 := Lh hh3
  have HM3 := Lh hm3
  have HR3 := Lh hr3
  have HX3 := Lh hx3
  have h3a := hc7 w3 hm3
  have h3b := hcx w3 hx3
  have h3c := (hcr w3 hr3).1
  have hqN1 : (q : Int) < (N : Int) := by omega
  have hq0 : (0 : Int) ≤ (q : Int) := by omega
  clear hc7 hcx hcr hl hRq hh3 hm3 hr3 hx3
  refine wp_region_Z 18 (by kernel_rfl) (fun V' => V'.cell? ⟨mb, 8, none⟩ = some (.slice (some ⟨fb, 0, none⟩) N N) ∧ V'.cell? ⟨xb, 0, none⟩ = some (.int .i64 (q : Int)) ∧ V'.cell? ⟨fb, q, none⟩ = some (.slice a l.length ca)) (by rw [hw3]; exact ⟨h3a, h3b, h3c⟩) (fun hHeld => ?_)
  refine zt (v := ?_) 0 rfl ?_ ?_
  rotate_left
  ·intro w hSw; (try dsimp only at hSw); go_simp; (try with_reducible rfl)
  (try simp only [Act.put, zq1, zq2, zq3, zq4, zq5, zq6])
  refine zt (v := ?_) 1 rfl ?_ ?_
  rotate_left
  ·intro w hSw; (try dsimp only at hSw); go_simp; (try with_reducible rfl)
  (try simp only [Act.put, zq1, zq2, zq3, zq4, zq5, zq6])
  refine zt (v := ?_) 2 rfl ?_ ?_
  rotate_left
  ·intro w hSw; (try dsimp only at hSw); go_simp; (try with_reducible rfl)
  (try simp only [Act.put, zq1, zq2, zq3, zq4, zq5, zq6])
  refine zt (v := ?_) 3 rfl ?_ ?_
  rotate_left
  ·intro w hSw; (try dsimp only at hSw); go_simp; (try with_reducible rfl)
  (try simp only [Act.put, zq1, zq2, zq3, zq4, zq5, zq6])
  refine zt (v := ?_) 4 rfl ?_ ?_
  rotate_left
  ·intro w hSw; (try dsimp only at hSw); go_simp; (try with_reducible rfl)
  (try simp only [Act.put, zq1, zq2, zq3, zq4, zq5, zq6])
  refine zt (v := ?_) 5 rfl ?_ ?_
  rotate_left
  ·intro w hSw; (try dsimp only at hSw); go_simp; (try with_reducible rfl)
  (try simp only [Act.put, zq1, zq2, zq3, zq4, zq5, zq6])
  refine zt (v := ?_) 6 rfl ?_ ?_
  rotate_left
  ·intro w hSw; (try dsimp only at hSw); go_simp; (try with_reducible rfl)
  (try simp only [Act.put, zq1, zq2, zq3, zq4, zq5, zq6])
  refine zt (v := ?_) 7 rfl ?_ ?_
  rotate_left
  ·intro w hSw; (try dsimp only at hSw); go_simp; (try with_reducible rfl)
  (try simp only [Act.put, zq1, zq2, zq3, zq4, zq5, zq6])
  refine zt (v := ?_) 8 rfl ?_ ?_
  rotate_left
  ·intro w hSw; (try dsimp only at hSw); go_simp; (try with_reducible rfl)
  (try simp only [Act.put, zq1, zq2, zq3, zq4, zq5, zq6])
  refine zt (v := ?_) 9 rfl ?_ ?_
  rotate_left
  ·intro w hSw; (try dsimp only at hSw); go_simp; (try with_reducible rfl)
  (try simp only [Act.put, zq1, zq2, zq3, zq4, zq5, zq6])
  refine zt (v := ?_) 10 rfl ?_ ?_
  rotate_left
  ·intro w hSw; (try dsimp only at hSw); go_simp; (try with_reducible rfl)
  (try simp only [Act.put, zq1, zq2, zq3, zq4, zq5, zq6])
  refine zt (v := ?_) 11 rfl ?_ ?_
  rotate_left
  ·intro w hSw; (try dsimp only at hSw); go_simp; (try with_reducible rfl)
  (try simp only [Act.put, zq1, zq2, zq3, zq4, zq5, zq6])
  refine zt (v := ?_) 12 rfl ?_ ?_
  rotate_left
  ·intro w hSw; (try dsimp only at hSw); go_simp; (try with_reducible rfl)
  (try simp only [Act.put, zq1, zq2, zq3, zq4, zq5, zq6])
  refine zt (v := ?_) 13 rfl ?_ ?_
  rotate_left
  ·intro w hSw; (try dsimp only at hSw); go_simp; (try with_reducible rfl)
  (try simp only [Act.put, zq1, zq2, zq3, zq4, zq5, zq6])
  refine zt (v := ?_) 14 rfl ?_ ?_
  rotate_left
  ·intro w hSw; (try dsimp only at hSw); go_simp; (try with_reducible rfl)
  (try simp only [Act.put, zq1, zq2, zq3, zq4, zq5, zq6])
  rw [hw3]
  refine zr 15 rfl fun K hK => ?_
  go_simp
  refine hK.out _ _ (⟨cellAl _ h3a, cellAl _ h3b, cellAl _ h3c⟩) (fun hHeld => ?_)
  clear hK K
  (try simp only [Act.put, zq1, zq2, zq3, zq4, zq5, zq6])
  have HOR : Hid (w3.ownsRow wD.heap.size 3 1 (.slice a l.length ca) l.length (l.map (Value.int .i64))) := Lh (own_keep (HC.out.rw.own q _ HRQ2.out) fun j hj => by
   have ht := own_ty (HC.out.rw.own q _ HRQ2.out) hj
   rw [HH3.out]
   exact (HG2.out.block _ (by have := HS1.out; have := ht.2.1; have := HXB.out; omega) (fun e => own_apart (HC.out.rw.own q _ HRQ2.out) HC.out.fam (fun e => tyHI e.symm) j hj e.symm)).trans (HB1.out.block _ ht.2.1))
  have hl40 : l.length < 1099511627776 := by omega
  have hW3 : wD.heap.size ≤ w3.heap.size := by rw [HH3.out]; have := HS1.out; have := HXB.out; omega
  refine zr 16 rfl fun K hK => ?_
  refine step_pushG rfl _ _ 62 rfl wD.heap.size 3 j0 _ 1 8 Tryz.underlying62 ji jz0 jz1 jz2 rfl (by decide) HOR.out rfl [.int .i64 (k2 : Int)] 3 rfl rfl (by simp [Value.oneCell']) hl40 (by decide) hW3 ?_
  intro A9 c9 w9 HO9 HG9 HN9
  have h2s : w3.heap.size = w2.heap.size := by rw [HH3.out]
  have hge : ∀ j, ownA a = some j → wD.heap.size ≤ j ∧ j < wr.heap.size := fun j hj => let t := own_ty (HC.out.rw.own q _ HRQ2.out) hj; ⟨t.1, t.2.1⟩
  have hgo : ∀ j, j < w3.heap.size → ownA a ≠ some j → w9.heap[j]? = w3.heap[j]? := fun j hj hne => (HG9.out.block _ (by simp; omega) (fun e => hne e.symm)).trans (Below.heap_alloc _ _ _ hj)
  have h9m := (hgo mb (by omega) (fun e => by have := (hge _ e).1; omega)).trans HM3.out
  have h9r := (hgo fb (by omega) (fun e => by have := (hge _ e).1; omega)).trans HR3.out
  have h9x := (hgo xb (by have := HS1.out; omega) (fun e => by have := (hge _ e).2; have := HXB.out; omega)).trans HX3.out
  have h9a := HC7.out w9 h9m
  have h9b := HCX.out w9 h9x
  have h9c := HCR.out w9 h9r
  refine hK.out _ _ (⟨h9a, h9b, h9c.1⟩) (fun hHeld => ?_)
  clear hK K
  (try simp only [Act.put, zq1, zq2, zq3, zq4, zq5, zq6])
  refine zt (v := ?_) 17 rfl ?_ ?_
  rotate_left
  ·intro w hSw; (try dsimp only at hSw); go_simp; (try with_reducible rfl)
  (try simp only [Act.put, zq1, zq2, zq3, zq4, zq5, zq6])
  have h9d := h9c.1
  have h9f := h9c.2
  refine wpAnyZ_last (i := 18) rfl (by kernel_rfl) (by kernel_rfl) rfl (fun K hK => ?_)
  go_simp
  refine hK.out _ _ ?_
  have HCN : Hid (Cl wD (w9.setCell ⟨fb, q, none⟩ (.slice A9 (l.length + 1) c9)) n W.heap.size fb A0 A2 c2 (O1 ++ (d.fs.take (k2 + 1)).flatMap (·.gs)) (R.set q (A9, c9, rowF ((d.fs.map (·.fr)).take k2) q ++ [(((d.fs.map (·.fr)).take k2).length : Int)]))) := Lh (by
   have hkl2 : ((d.fs.map (·.fr)).take k2).length = k2 := by
    have h1 := (List.getElem?_eq_some_iff.1 HX.out).1
    rw [List.length_take, List.length_map]; omega
   rw [HLL.out, hkl2, take_snoc? HX.out, List.flatMap_append, ← List.append_assoc, HO.out]
   have e1 : ([r].flatMap (·.gs)) = r.gs := by simp
   rw [e1]
   exact HC.out.step (nq := 1) hnW (by omega) hS.out.lo.2.2.2.2.2 (by have := hS.out.fns.lt; omega) HO2.out HG2'.out (by
    rcases HN2.out with e | ⟨g, e, hg⟩
    ·exact .inl e
    ·exact .inr ⟨g, e, by have := HS1.out; have := HXB.out; omega⟩) HRQ2.out (by have := HFSL.out; have := HLT.out; unfold I64; omega) HO9.out (by
     have e : w2.drewN 1 = w3 := hw3
     rw [e]; exact HG9.out) (by rw [← h2s]; exact HN9.out))
  have HRN : Hid (RowsF N ((d.fs.map (·.fr)).take (k2 + 1)) (R.set q (A9, c9, rowF ((d.fs.map (·.fr)).take k2) q ++ [(((d.fs.map (·.fr)).take k2).length : Int)]))) := Lh (by
   have e : (d.fs.map (·.fr))[k2]? = some (q : Int) := by rw [List.getElem?_map, HX.out, Option.map_some, HQ.out]
   rw [take_snoc? e]
   exact HR.out.step (by omega))
  have HLEN : Hid ((O1 ++ (d.fs.take (k2 + 1)).flatMap (·.gs)).length = O.length + r.gs.length) := Lh (by rw [take_snoc? HX.out, List.flatMap_append, ← List.append_assoc, HO.out]; simp)
  clear hHeld hK K h9m h9r h9x h9a h9b h9c h9d h9f hge hgo hw3 h3a h3b h3c hs2 h2s hAr hAx hAm hmW hrW
  (try simp only [Act.put, zq1, zq2, zq3, zq4, zq5, zq6])
  go_wp2_with fail
  go_roundw
  case rel => exact ⟨k2 + 1, A2, c2, _, by have := HLT.out; omega, by go_num, by rw [HLEN.out], HCN, HRN⟩
  case measure => have := HLT.out; simp [intOf]; omega
 obtain rfl : k2 = fsl := by omega
 have hd : decide (k2 < k2) = false := by simp
 have hfa2 : d.fs.take k2 = d.fs := by rw [← HFSL.out, List.take_length]
 have hra2 : d.rs.take k = d.rs := by rw [← HRSL.out, List.take_length]
 obtain ⟨O, hO⟩ : ∃ z, O1 ++ (d.fs.take k2).flatMap (·.gs) = z := ⟨_, rfl⟩
 have hOf : O = famI d := by
  rw [← hO, ← HO1.out, hfa2, hra2]; rfl
 rw [hO] at HC ⊢
 have HOF := Lh hOf
 have hOl : O.length ≤ 32768 := by
  rw [hOf]
  unfold famI
  rw [List.length_append]
  have h5 := flat_len (l := d.rs) (f := (·.gs)) fun x hx => (hr.out x hx).2.2
  have h6 := flat_len (l := d.fs) (f := (·.gs)) fun x hx => (hf.out x hx).2.2
  omega
 have HR2 : Hid (RowsF N (d.fs.map (·.fr)) R) := Lh (by
  have h := HR.out
  rwa [← List.map_take, hfa2] at h)
 have HR1F : Hid (RowsF N (d.rs.map (·.fr)) R1) := Lh (by
  have h := HR1.out
  rwa [← List.map_take, hra2] at h)
 have HBE : Hid (Below n W wr) := Lh (HBW.out.trans HC.out.bel)
 have HKF : Hid (St wr wr (fun W' => LL A O W')) := Lh ⟨fun W' hW => ⟨Sl.below (B := 0) (Sl.of_own HC.out.fam) hW, fun i hi => by
  have hd2 := hD.out W' (HBE.out.trans (hW.mono (by have := HBE.out.size; omega)))
  rw [HOF.out] at hi
  unfold famI at hi
  rcases List.mem_append.1 hi with hi | hi
  ·obtain ⟨r, hr1, hr2⟩ := List.mem_flatMap.1 hi
   exact (hd2.rules.it r hr1).2.1.1.it i hr2
  ·obtain ⟨r, hr1, hr2⟩ := List.mem_flatMap.1 hi
   exact (hd2.fins.it r hr1).2.1.1.it i hr2⟩, Below.refl _ _⟩
 have HKL := St.lit HKF ((0 : Int), (255 : Int)) (by intro p hp; simp at hp; subst hp; constructor <;> omega)
 have hr255 : Hid (Rep [((0 : Int), (255 : Int))] (Mem [((0 : Int), (255 : Int))])) := Lh (Rep.self (by simp [Plain, PlainF]))
 clear hO hOf hfa2 hra2 hlt
 go_wp2_with fail
 refine (Split_st HKL (fun _ h => h.1) (fun _ h => h.2) (by omega) 1 c2' hr255).mono ?_
 rintro e w3 (⟨hnone, rfl, HK3⟩ | ⟨A3, c3, O3, hsome, hl3, rfl, HK3⟩)
 ·have HNO : Hid (splitL [(0, 255)] (bodies (famI d)) = none) := Lh (by rw [← HOF.out]; exact hnone)
  have HBX : Hid (Below n W w3) := Lh (HBE.out.trans (HK3.out.2.mono (by have := HBE.out.size; omega)))
  clear hnone
  go_wp2_with fail
  go_ret
  exact .inl ⟨HNO.out, rfl, HBX⟩
 have HSO : Hid (splitL [(0, 255)] (bodies (famI d)) = some (bodies O3)) := Lh (by rw [← HOF.out]; exact hsome)
 obtain ⟨hp1, hp2⟩ := hcnt.out _ HSO.out
 rw [bodies_length] at hp1
 have HP2 := Lh hp2
 clear hsome hp2
 go_wp2_with fail
 refine (Row_st HK3 (fun _ h => h.1) hp1 c3).mono ?_
 rintro e w4 (⟨⟨i, hi1, hi2⟩, _⟩ | ⟨_, B4, c4, rfl, HK4⟩)
 ·have := HP2.out i hi1
  omega
 have hb4 : Below wr.heap.size wr w4 := HK4.out.2
 have hmr4 : w4.heap[mb]? = W.heap[mb]? := (hb4.block _ (by have := HBE.out.size; have := (Array.getElem?_eq_some_iff.1 hS.out.box).1; omega)).trans ((HC.out.blk _ (by have := HBW.out.size; have := (Array.getElem?_eq_some_iff.1 hS.out.box).1; omega) HMF.out HA0M.out).trans HMD.out)
 have HM4 : Hid (w4.heap[mb]? = some (.cells (mkCells (mkB0 d n mb nb ab eb rb fb N) mkV0).toArray 143 (0, 0))) := Lh (hmr4.trans hS.out.box)
 have HB4 := Lh hb4
 clear hb4 hmr4
 have hI := HK4.out.now.1
 have hcl256 : (classes (bodies O3) 256).length = 256 := by simp [classes]
 obtain ⟨pb, po, rfl, hpc⟩ := hI.2 (by omega)
 have hw4s := HB4.out.size
 have HPC : Hid (∀ W', Below w4.heap.size w4 W' → ∀ j v, ((classes (bodies O3) 256).map (Value.int .u8))[j]? = some v → W'.cell? ((⟨pb, po, none⟩ : Addr).add j) = some v) := Lh fun W' hW j v hv => by
  rw [add_plain]
  have h := hpc j v hv
  exact (hW.cell (lt_of_cell h)).trans h
 have HCL := Lh hcl256
 have hcsz : (mkCells (mkB0 d n mb nb ab eb rb fb N) mkV0).length = 272 := mkCells_len _ _ (by simp [mkB0])
 have HNEWC : Hid (((mkCells (mkB0 d n mb nb ab eb rb fb N) mkV0).toArray.toList.take 13 ++ (classes (bodies O3) 256).map (Value.int .u8) ++ (mkCells (mkB0 d n mb nb ab eb rb fb N) mkV0).toArray.toList.drop (13 + 256)).toArray = (mkCells { mkB0 d n mb nb ab eb rb fb N with cls := classes (bodies O3) 256 } mkV0).toArray) := Lh (by
  unfold mkCells
  have h1 : (mkHead (mkB0 d n mb nb ab eb rb fb N) mkV0).length = 13 := rfl
  have h2 : ((mkB0 d n mb nb ab eb rb fb N).cls.map (Value.int .u8)).length = 256 := by simp [mkB0]
  show ((mkHead (mkB0 d n mb nb ab eb rb fb N) mkV0 ++ ((mkB0 d n mb nb ab eb rb fb N).cls.map (Value.int .u8) ++ mkTail mkV0)).take 13 ++ _ ++ List.drop (13 + 256) (mkHead (mkB0 d n mb nb ab eb rb fb N) mkV0 ++ ((mkB0 d n mb nb ab eb rb fb N).cls.map (Value.int .u8) ++ mkTail mkV0))).toArray = _
  rw [List.take_append_of_le_length (by omega), List.take_of_length_le (by omega), ← List.drop_drop, List.drop_append_of_le_length (by omega), List.drop_of_length_le (by omega : _ ≤ 13), List.nil_append, List.drop_append_of_le_length (by omega), List.drop_of_length_le (by omega), List.nil_append, List.append_assoc]
  rfl)
 clear hI hcl256 hpc hw4s
 have hlen256 : ((classes (bodies O3) 256).map (Value.int .u8)).length = 256 := by rw [List.length_map]; exact HCL.out
 have hone8 : ∀ v ∈ (classes (bodies O3) 256).map (Value.int .u8), v.oneCell' = true := fun v hv => by obtain ⟨x, _, rfl⟩ := List.mem_map.1 hv; rfl
 have hfit : 13 + 256 ≤ (mkCells (mkB0 d n mb nb ab eb rb fb N) mkV0).toArray.size := by rw [List.size_toArray, hcsz]; omega
 have HFIT := Lh hfit
 have HL256 := Lh hlen256
 have HONE8 := Lh hone8
 clear hcsz hlen256 hone8 hfit
 go_wp2_with (refine wpList_copyW rfl _ _ 79 79 rfl 5 Tryz.underlying79 info_u8c mb 13 256 256 256 c4 256 ⟨pb, po, none⟩ rfl rfl _ _ HM4.out _ HL256.out rfl (HPC.out _ (Below.refl _ _)) HFIT.out HONE8.out _ HNEWC.out ?_; intro w5 HW5)
 have hc5 : w5.heap[mb]? = some (.cells (mkCells { mkB0 d n mb nb ab eb rb fb N with cls := classes (bodies O3) 256 } mkV0).toArray 143 (0, 0)) := by
  rw [HW5.out]; exact setRow_heap _ _ _ _ _ _ HM4.out
 have ho5 : ∀ k, k ≠ mb → w5.heap[k]? = w4.heap[k]? := fun k hk => by rw [HW5.out]; exact setRow_other _ _ _ _ hk
 have hs5 : w5.heap.size = w4.heap.size := by rw [HW5.out]; simp [World.setRow]
 have hw4s := HB4.out.size
 have hmW : mb < W.heap.size := (Array.getElem?_eq_some_iff.1 hS.out.box).1
 have hWD := HBW.out.size
 have hDE := HC.out.bel.size
 have HK5 : Hid (St w5 w5 (fun W' => LL A3 O3 W')) := Lh ⟨fun W' hW => (ll_mono HK4.out.now.2.1 (fun b o v hv hu => by
  by_cases e : b = mb
  ·subst e
   exact mk_mono HCL.out HM4.out hc5 hv hu
  ·rw [World.cell?_of_block (w := w4) (a := ⟨b, o, none⟩) (ho5 _ e)]; exact hv)).below hW, Below.refl _ _⟩
 have HC5 := Lh hc5
 have HO5 := Lh ho5
 have HS5 := Lh hs5
 clear hc5 ho5 hs5
 refine (Least_own HK5 (fun _ h => h) (by omega) c3).mono ?_
 rintro e w6 ⟨B6, c6, rfl, HO6, HB6⟩
 have hb6 := HB6.out.size
 have h6m : w6.heap[mb]? = w5.heap[mb]? := HB6.out.block _ (by have := HS5.out; omega)
 have h6f : w6.frozen? ⟨mb, 6, none⟩ = false := by
  have h := h6m.trans HC5.out
  simp [World.frozen?, h]
 have h6c : ∃ v, w6.cell? ⟨mb, 6, none⟩ = some v := by
  have h := h6m.trans HC5.out
  exact ⟨.slice none 0 0, by simp [World.cell?, h, mkCells, mkHead, mkB0]⟩
 obtain ⟨v6, hv6⟩ := h6c
 obtain ⟨w7, hw7⟩ : ∃ z, w6.setCell ⟨mb, 6, none⟩ (.slice B6 O3.length c6) = z := ⟨_, rfl⟩
 have hst : ∀ k, k ≠ mb → w7.heap[k]? = w6.heap[k]? := fun k hk => by rw [← hw7]; exact heap_setCell_other _ _ _ _ hk
 have hs7 : w7.heap.size = w6.heap.size := by rw [← hw7]; simp
 have hbl : (bodies O3).length = O3.length := bodies_length _
 have h7m : w7.heap[mb]? = some (.cells (mkCells (mkB1 d n mb nb ab eb rb fb B6 c6 (bodies O3) R1 R) mkV0).toArray 143 (0, 0)) := by
  rw [← hw7, heap_setCell_same w6 mb 6 _ _ _ (h6m.trans HC5.out)]
  have e1 : R1.length = N := HR1F.out.1
  have e2 : R.length = N := HR2.out.1
  have e3 : ((bodies O3).map leastI).length = O3.length := by rw [List.length_map, hbl]
  congr 2
  rw [List.setIfInBounds_toArray]
  congr 1
  unfold mkB1 mkCells mkHead mkB0
  simp only [e1, e2, e3, List.length_replicate]
  rfl
 have HFIN : Hid (RetCls d n mb nb ab eb rb fb N W (.returned (.int .i64 0)) w7) := Lh (by
  have hrW : rb < W.heap.size := hS.out.rws.lt
  have hfW : fb < W.heap.size := hS.out.fns.lt
  have hA0t : ∀ k (t : TypeId) cs fr, wD.heap[k]? = some (.cells cs t fr) → 103 ≠ t → ownA A0 ≠ some k := fun k t cs fr hk ht => own_ne_cells HC1.out.fam hk ht
  have hWr : ∀ k, k < W.heap.size → k ≠ rb → wD.heap[k]? = W.heap[k]? := fun k hk hne => HC1.out.blk k hk hne (fun e => by cases e)
  have hr7 : ∀ k, k < wr.heap.size → k ≠ mb → w7.heap[k]? = wr.heap[k]? := fun k hk hne => (hst k hne).trans ((HB6.out.block k (by have := HS5.out; omega)).trans ((HO5.out k hne).trans (HB4.out.block k hk)))
  have hD7 : ∀ k, k < wD.heap.size → k ≠ mb → k ≠ fb → ownA A0 ≠ some k → w7.heap[k]? = wD.heap[k]? := fun k hk h1 h2 h3 => (hr7 k (by omega) h1).trans (HC.out.blk k hk h2 h3)
  have hmap : ∀ {b : Nat} {kt : TypeId}, MapIs Tryz.prog kt b [] W → n ≤ b → MapIs Tryz.prog kt b [] w7 := fun {b kt} h _ => by
   have hb := h.lt
   have h1 : b ≠ rb := fun e => cells_ne_map hS.out.rws.blk h e.symm
   have h2 : b ≠ fb := fun e => cells_ne_map hS.out.fns.blk h e.symm
   have h3 : b ≠ mb := fun e => cells_ne_map hS.out.box h e.symm
   refine h.same ((hD7 b (by omega) h3 h2 (fun e => ?_)).trans (hWr b hb h1))
   have := (own_ty HC1.out.fam e).1
   omega
  have hR1 : RwI rb W.heap.size R1 w7 := by
   have hfb := hS.out.fns.blk
   have hfbD := (hWr fb hfW hS.out.dis.2.2.2.symm).trans hfb
   refine HC1.out.rw.keep (hD7 rb (by omega) HMR.out.symm hS.out.dis.2.2.2 (hA0t rb _ _ _ HC1.out.rw.blk tyHR)) fun k h1 h2 ⟨cur, h3⟩ => hD7 k h2 (by omega) (by omega) (hA0t k _ _ _ h3 tyHI)
  have hR2 : RwI fb wD.heap.size R w7 := HC.out.rw.keep (hr7 fb (by omega) HMF.out.symm) fun k h1 h2 _ => hr7 k h2 (by omega)
  have hls : w7.ownsRow w5.heap.size 3 1 (.slice B6 O3.length c6) O3.length (((bodies O3).map leastI).map (Value.int .i64)) := own_keep HO6.out fun k hk => hst k (by have := (own_ty HO6.out hk).1; have := HS5.out; omega)
  have hmut : ∀ k, ¬ Mut (mkB1 d n mb nb ab eb rb fb B6 c6 (bodies O3) R1 R) mkV0 k ↔ (k ≠ mb ∧ k ≠ nb ∧ k ≠ ab ∧ k ≠ eb) := fun k => by
   unfold Mut
   constructor
   ·intro h
    exact ⟨fun e => h (.inl e), fun e => h (.inr (.inl e)), fun e => h (.inr (.inr (.inl e))), fun e => h (.inr (.inr (.inr (.inl e))))⟩
   ·rintro ⟨h1, h2, h3, h4⟩ (e | e | e | e | e | e | e | e)
    ·exact h1 e
    ·exact h2 e
    ·exact h3 e
    ·exact h4 e
    ·cases e
    ·cases e
    ·cases e
    ·cases e
  have hfree : ∀ k t cs fr, w7.heap[k]? = some (.cells cs t fr) → t ≠ 143 → ¬ Mut (mkB1 d n mb nb ab eb rb fb B6 c6 (bodies O3) R1 R) mkV0 k := fun k t cs fr hk ht => (hmut k).2 ⟨fun e => by
    rw [e, h7m] at hk; injection hk with hk; injection hk with _ hk; exact ht hk.symm,
   fun e => cells_ne_map hk (hmap hS.out.num hS.out.lo.2.1) e, fun e => cells_ne_map hk (hmap hS.out.am hS.out.lo.2.2.1) e, fun e => cells_ne_map hk (hmap hS.out.em hS.out.lo.2.2.2.1) e⟩
  have hlen4 : ∀ x ∈ R1, x.2.2.length ≤ 1048576 := fun x hx => by
   obtain ⟨q, hq⟩ := List.getElem?_of_mem hx
   obtain ⟨a, c, h⟩ := HR1F.out.2 q (by have := (List.getElem?_eq_some_iff.1 hq).1; have := HR1F.out.1; omega)
   rw [hq] at h; injection h with h; subst h
   have := rowF_len (d.rs.map (·.fr)) q
   rw [List.length_map] at this
   show (rowF _ _).length ≤ _
   omega
  have hlen5 : ∀ x ∈ R, x.2.2.length ≤ 1048576 := fun x hx => by
   obtain ⟨q, hq⟩ := List.getElem?_of_mem hx
   obtain ⟨a, c, h⟩ := HR2.out.2 q (by have := (List.getElem?_eq_some_iff.1 hq).1; have := HR2.out.1; omega)
   rw [hq] at h; injection h with h; subst h
   have := rowF_len (d.fs.map (·.fr)) q
   rw [List.length_map] at this
   show (rowF _ _).length ≤ _
   omega
  refine .inr ⟨bodies O3, B6, c6, R1, R, HSO.out, rfl, Lh ⟨h7m, HCL.out, ⟨hS.out.lo.1, hS.out.lo.2.1, hS.out.lo.2.2.1, hS.out.lo.2.2.2.1⟩, ⟨hS.out.dis.1, hS.out.dis.2.1, hS.out.dis.2.2.1⟩, World.ownsRow_nil _ _ _ _, hmap hS.out.num hS.out.lo.2.1, fun p hp => (by cases hp), World.ownsRow_nil _ _ _ _, hmap hS.out.am hS.out.lo.2.2.1, World.ownsRow_nil _ _ _ _, hmap hS.out.em hS.out.lo.2.2.2.1, World.ownsRow_nil _ _ _ _, ?_, fun k h => by have h' : k < n := h; have := (Array.getElem?_eq_some_iff.1 h7m).1; have := hS.out.lo.1; omega⟩, Lh ?_, HR1F, HR2⟩
  ·intro U hU0
   refine ⟨?_, hR1.row (by rw [HR1F.out.1]; omega) hlen4 _ ⟨hfree rb _ _ _ hR1.blk (by decide), Nat.not_lt.2 hS.out.lo.2.2.2.2.1⟩ (fun k hb _ ⟨cur, hk⟩ => ⟨hfree k _ _ _ hk (by decide), fun h => by have h' : k < n := h; omega⟩) U hU0, hR2.row (by rw [HR2.out.1]; omega) hlen5 _ ⟨hfree fb _ _ _ hR2.blk (by decide), Nat.not_lt.2 hS.out.lo.2.2.2.2.2⟩ (fun k hb _ ⟨cur, hk⟩ => ⟨hfree k _ _ _ hk (by decide), fun h => by have h' : k < n := h; omega⟩) U hU0, fun x hx => (by cases hx), fun x hx => (by cases hx), fun x hx => (by cases hx)⟩
   have h1 := Sl.of_own (own_keep (w' := U) hls fun k hk => hU0 k (by obtain ⟨hb, _, cur, h⟩ := own_ty hls hk; exact ⟨hfree k _ _ _ h (by decide), fun h => by have h' : k < n := h; have := HS5.out; have := HB4.out.size; have := HBE.out.size; omega⟩) (own_ty hls hk).2.1)
   refine ⟨?_, fun x hx => ?_, ?_⟩
   ·show Sl U 1 B6 ((bodies O3).map leastI).length (((bodies O3).map leastI).flatMap fun x => [Value.int .i64 x])
    rw [← List.map_eq_flatMap, List.length_map, hbl]
    exact h1
   ·obtain ⟨b, _, rfl⟩ := List.mem_map.1 hx
    have := leastI_bd b
    unfold I64; omega
   ·show ((bodies O3).map leastI).length ≤ _
    rw [List.length_map, hbl]; omega
  ·have h1 : Below n W w4 := HBE.out.trans (HB4.out.mono (by omega))
   have h2 : Below n W w5 := by rw [HW5.out]; exact h1.trans ⟨rfl, rfl, rfl, by simp [World.setRow], fun k hk => setRow_other _ _ _ _ (by have := hS.out.lo.1; omega)⟩
   have h3 := (h2.trans (HB6.out.mono (by have := HS5.out; omega))).setCell (p := ⟨mb, 6, none⟩) hS.out.lo.1 (.slice B6 O3.length c6)
   rw [hw7] at h3
   exact h3)
 clear hst hs7 h7m h6m
 go_wp2_with fail
 (try rw [hw7])
 go_ret
 exact HFIN.out
section
theorem infoRowI : (Tryz.prog.info? 62).map (fun i => (i.zero, i.size, i.bytes)) = some (some (.slice none 0 0), 1, 24) := by kernel_rfl
def intC (x : Int) : List Value := [.int .i64 x]
theorem St.made (w : World) (n : Nat) (z : Value) (t : TypeId) : BoxC w.heap.size (List.replicate n z) (w.alloc (.cells (madeCells #[z] n) t)) := fun i v hv => by
 rw [World.cell?_alloc_new, ← Array.getElem?_toList, toList_madeCells_one]
 simpa using hv
section
variable {w0 w : World} {F : World → Prop}
end
end
section
structure QOwn (W : World) (base : Nat) (e : TypeId) (A : Option Addr) (n c : Nat) (xs : List Value) : Prop where
 len : xs.length = n
 sh : (A = none ∧ n = 0 ∧ c = 0) ∨ ∃ g p cur, A = some ⟨g, p, none⟩ ∧ base ≤ g ∧ W.heap[g]? = some (.cells cur e (0, 0)) ∧ n ≤ c ∧ c ≤ maxLen ∧ p + c ≤ cur.size ∧ (cur.toList.drop p).take n = xs
section
variable {W W' : World} {base : Nat} {e : TypeId} {A : Option Addr} {n c : Nat} {xs : List Value}
theorem QOwn.of_own (h : W.ownsRow base e 1 (.slice A n c) n xs) : QOwn W base e A n c xs := by
 refine ⟨by simpa using h.1, ?_⟩
 rcases h.2 with ⟨e1, e2⟩ | ⟨g, cap, cur, e1, h1, h2, h3, h4, h5, h6⟩
 ·injection e1 with e1 _ e3
  exact .inl ⟨e1, e2, e3⟩
 ·injection e1 with e1 _ e3
  subst e3
  exact .inr ⟨g, 0, cur, e1, h1, h2, h3, h4, by omega, by simpa using h6⟩
theorem QOwn.cap (h : QOwn W base e A n c xs) : n ≤ c ∧ c ≤ 9223372036854775807 := by
 rcases h.sh with ⟨_, h1, h2⟩ | ⟨g, p, cur, _, _, _, h3, h4, _⟩
 ·omega
 ·unfold maxLen at h4; omega
theorem QOwn.ty (h : QOwn W base e A n c xs) {k : Nat} (hk : ownA A = some k) : base ≤ k ∧ k < W.heap.size ∧ ∃ cur, W.heap[k]? = some (.cells cur e (0, 0)) := by
 rcases h.sh with ⟨rfl, _⟩ | ⟨g, p, cur, rfl, h1, h2, _⟩
 ·cases hk
 ·injection hk with hk; simp only at hk; subst hk
  exact ⟨h1, (Array.getElem?_eq_some_iff.1 h2).1, cur, h2⟩
theorem QOwn.keep (h : QOwn W base e A n c xs) (hk : ∀ k, ownA A = some k → W'.heap[k]? = W.heap[k]?) : QOwn W' base e A n c xs := by
 refine ⟨h.len, ?_⟩
 rcases h.sh with h1 | ⟨g, p, cur, rfl, h1, h2, h3⟩
 ·exact .inl h1
 ·exact .inr ⟨g, p, cur, rfl, h1, (hk g rfl).trans h2, h3⟩
theorem QOwn.cell {g p : Nat} (h : QOwn W base e (some ⟨g, p, none⟩) n c xs) {j : Nat} (hj : j < n) : W.cell? ⟨g, p + j, none⟩ = xs[j]? := by
 rcases h.sh with ⟨h1, _⟩ | ⟨g', p', cur, e1, h1, h2, h3, h4, h5, h6⟩
 ·cases h1
 ·injection e1 with e1; injection e1 with e1 e2; subst e1; subst e2
  rw [← h6, List.getElem?_take, if_pos hj, List.getElem?_drop]
  simp [World.cell?, h2]
theorem QOwn.some_ (h : QOwn W base e A n c xs) (hn : 0 < n) : ∃ g p, A = some ⟨g, p, none⟩ := by
 rcases h.sh with ⟨_, h1, _⟩ | ⟨g, p, cur, rfl, _⟩
 ·omega
 ·exact ⟨g, p, rfl⟩
theorem QOwn.tail {g p : Nat} {x : Value} {n : Nat} {xs : List Value} (h : QOwn W base e (some ⟨g, p, none⟩) (n + 1) c (x :: xs)) : QOwn W base e (some ⟨g, p + 1, none⟩) n (c - 1) xs := by
 rcases h.sh with ⟨h1, _⟩ | ⟨g', p', cur, e1, h1, h2, h3, h4, h5, h6⟩
 ·cases h1
 ·injection e1 with e1; injection e1 with e1 e2; subst e1; subst e2
  have hl := h.len
  refine ⟨by simpa using hl, .inr ⟨g, p + 1, cur, rfl, h1, h2, by omega, by omega, by omega, ?_⟩⟩
  have h7 : (cur.toList.drop p).tail.take n = xs := by
   rcases hd : cur.toList.drop p with _ | ⟨y, l⟩
   ·rw [hd] at h6; simp at h6
   ·rw [hd] at h6; simp at h6 ⊢; exact h6.2
  rw [← h7, List.tail_drop]
theorem QOwn.tail0 {g p : Nat} {x : Value} {xs : List Value} (h : QOwn W base e (some ⟨g, p, none⟩) 1 1 (x :: xs)) (q : Nat) (hq : q = p ∨ q = p + 1) : QOwn W base e (some ⟨g, q, none⟩) 0 0 xs := by
 have hl := h.len
 have hx : xs = [] := List.eq_nil_of_length_eq_zero (by simpa using hl)
 subst hx
 rcases h.sh with ⟨h1, _⟩ | ⟨g', p', cur, e1, h1, h2, h3, h4, h5, h6⟩
 ·cases h1
 ·injection e1 with e1; injection e1 with e1 e2; subst e1; subst e2
  exact ⟨rfl, .inr ⟨g, q, cur, rfl, h1, h2, Nat.le_refl _, by simp, by omega, by simp⟩⟩
end
theorem setCells_one (w : World) (b o : Nat) (v : Value) : w.setCells b o [v] = w.setCell ⟨b, o, none⟩ v := rfl
theorem run_append_q {P : Program} (w : World) (base : Nat) (t ty e : TypeId) (i : TypeInfo) (z : Value) (bytes : Nat) (ht : P.underlying t = some (.slice e)) (hi : P.info? e = some i) (hz : i.zero = some z)
  (hsize : i.size = 1) (hby : i.bytes = bytes) (hzs : z.cells.size = 1) {A : Option Addr} {n c : Nat} {xs : List Value} (h : QOwn w base e A n c xs)
  (nb : Nat) (cc : Nat) (v : Value) (hv : w.cell? ⟨nb, 0, none⟩ = some v) (h1 : v.oneCell' = true) (h63 : n + 1 ≤ maxLen) (hbytes : (n + 1) * bytes ≤ 140737488355328) (hbase : base ≤ w.heap.size) :
  ∃ A' c' w', (Builtin.append_ #[t, t] ty #[.slice A n c, .slice (some ⟨nb, 0, none⟩) 1 cc]).run P w = .ok (.slice A' (n + 1) c') w' ∧ QOwn w' base e A' (n + 1) c' (xs ++ [v]) ∧ w.grownBy w' (ownA A) ∧ Newer (ownA A) (ownA A') w.heap.size := by
 subst hby
 have hsmall : n + 1 ≤ 9223372036854775807 := by simp only [maxLen] at h63; omega
 have hnews : ∀ j u, ([v] : List Value)[j]? = some u → w.cell? ((⟨nb, 0, none⟩ : Addr).add j) = some u := by
  intro j u hu
  rcases j with _ | j
  ·simp at hu; subst hu; rw [add_plain]; exact hv
  ·simp at hu
 have hl : ([v] : List Value).length = 1 * i.size := by rw [hsize]; rfl
 have grown : ∀ (old : Nat), old < n + 1 → ∀ (row : Option Nat),
   QOwn (w.drew.alloc (.cells (xs.toArray ++ [v].toArray ++ Builtin.zeroCells z.cells (grownCap w (n + 1) old e - (n + 1))) e)) base e (some ⟨w.heap.size, 0, none⟩) (n + 1) (grownCap w (n + 1) old e) (xs ++ [v]) ∧
   w.grownBy (w.drew.alloc (.cells (xs.toArray ++ [v].toArray ++ Builtin.zeroCells z.cells (grownCap w (n + 1) old e - (n + 1))) e)) row := by
  intro old ho row
  have hge := grownCap_ge w (n + 1) old e
  have hcm : grownCap w (n + 1) old e ≤ maxLen := grownCap_le_maxLen w (n + 1) old e h63
  have hx := h.len
  refine ⟨⟨by simp [hx], .inr ⟨w.heap.size, 0, _, rfl, hbase, heap_alloc_new w.drew _, hge, hcm, ?_, ?_⟩⟩, ⟨rfl, rfl, rfl, by simp, fun k hk _ => Below.heap_alloc w.drew _ _ hk⟩⟩
  ·simp only [Array.size_append, List.size_toArray, size_zeroCells, hzs, hx, List.length_cons, List.length_nil]
   omega
  ·simp only [Array.toList_append, List.drop_zero]
   have : (xs ++ [v]).length = n + 1 := by simp [hx]
   rw [← this]
   exact List.take_left
 rcases h.sh with ⟨rfl, rfl, rfl⟩ | ⟨g, p, cur, rfl, hbg, hg, hnc, hcm, hcs, htake⟩
 ·have hx : xs = [] := List.eq_nil_of_length_eq_zero h.len
  subst hx
  have hr := run_append_nil (P := P) w t ty e i z ht hi hz ⟨nb, 0, none⟩ 1 cc [v] hl hnews (by omega) (by omega) (by have hb := hbytes; simp only [Nat.zero_add] at hb; omega)
  have hgr := grown 0 (by omega) none
  simp only [Nat.zero_add, List.nil_append, Array.empty_append] at hgr ⊢
  exact ⟨_, _, _, hr, hgr.1, hgr.2, .inr ⟨_, rfl, Nat.le_refl _⟩⟩
 ·by_cases hroom : n + 1 ≤ c
  ·have hp : p + n < cur.size := by omega
   have hsrc : Src P i.size t (.slice (some ⟨nb, 0, none⟩) 1 cc) 1 [v] w := Src.ofSlice w ht ⟨nb, 0, none⟩ 1 cc [v] hl hnews (by simpa using h1)
   have hr := run_append_room_src (P := P) w t t ty e i ht hi g p n c (.slice (some ⟨nb, 0, none⟩) 1 cc) 1 [v] hsrc hroom (by
    intro j hj
    have : j = 0 := by simpa using hj
    subst this
    rw [hsize]
    simp [World.cell?, hg, hp]) (by
    intro j hj
    simp [World.frozen?, hg])
   rw [hsize, Nat.mul_one, setCells_one] at hr
   refine ⟨_, _, _, hr, ⟨by simp [h.len], .inr ⟨g, p, cur.setIfInBounds (p + n) v, rfl, hbg, heap_setCell_same w g (p + n) cur e v hg, hroom, hcm, by simpa using hcs, ?_⟩⟩, ⟨rfl, rfl, rfl, by simp, fun k _ hk => heap_setCell_other w ⟨g, p + n, none⟩ k v (fun e => hk (by simp [ownA, e]))⟩, .inl rfl⟩
   rw [Array.toList_setIfInBounds, List.drop_set, if_neg (by omega), show p + n - p = n by omega, ← htake]
   rw [List.take_set, List.take_add_one, List.getElem?_drop, List.getElem?_eq_getElem (by simpa using hp)]
   simp only [Option.toList_some]
   have hl2 : ((cur.toList.drop p).take n).length = n := by rw [htake]; exact h.len
   rw [List.set_append_right _ _ (by omega), hl2, Nat.sub_self, List.set_cons_zero]
  ·have holds : ∀ j u, xs[j]? = some u → w.cell? ((⟨g, p, none⟩ : Addr).add j) = some u := by
    intro j u hu
    have hj : j < n := by rw [← h.len]; exact (List.getElem?_eq_some_iff.1 hu).1
    rw [add_plain, h.cell hj]; exact hu
   have hr := run_append_grow (P := P) w t ty e i z ht hi hz ⟨g, p, none⟩ n c xs (by rw [hsize, h.len]; omega) holds ⟨nb, 0, none⟩ 1 cc [v] hl hnews (by omega) (by omega) (growslice_fits (by omega) hbytes)
   have hgr := grown c (by omega) (some g)
   exact ⟨_, _, _, hr, hgr.1, hgr.2, .inr ⟨_, rfl, Nat.le_refl _⟩⟩
theorem wpList_pushQ {P : Program} {w0 : World} {ops : Array Oper} {rest : List Oper} {o : Oper} {a : Act} {Q : Exit → Act → World → Prop} (hgd : o.guard = none) (s x : Operand) (t : TypeId)
  (ho : o.op = .call { callee := .builtin .append, args := #[s, x], argTypes := #[t, t] })
  (base : Nat) (e : TypeId) (i : TypeInfo) (z : Value) (bytes : Nat) (ht : P.underlying t = some (.slice e)) (hi : P.info? e = some i) (hz : i.zero = some z)
  (hsize : i.size = 1) (hby : i.bytes = bytes) (hzs : z.cells.size = 1)
  {A : Option Addr} {c n : Nat} {xs : List Value} (hown : QOwn w0 base e A n c xs) (hs : a.eval s = .slice A n c)
  (v : Value) (e' : TypeId) (hx : a.eval x = .slice (some ⟨w0.heap.size, 0, none⟩) 1 1) (h1 : v.oneCell' = true)
  (hn : n < 1099511627776) (hb : bytes ≤ 128) (hbase : base ≤ w0.heap.size)
  (h : ∀ A' c' w', Hid (QOwn w' base e A' (n + 1) c' (xs ++ [v])) → Hid ((w0.alloc (.cells #[v] e')).grownBy w' (ownA A)) → Hid (Newer (ownA A) (ownA A') (w0.heap.size + 1)) → wpList P ops Q rest (a.put o.dst (.slice A' (n + 1) c')) w') :
  wpList P ops Q (o :: rest) a (w0.alloc (.cells #[v] e')) := by
 refine wpList_plain hgd fun _ hK => ?_
 have hs0 : (w0.alloc (.cells #[v] e')).heap.size = w0.heap.size + 1 := by simp
 have hq : QOwn (w0.alloc (.cells #[v] e')) base e A n c xs := hown.keep fun k hk => Below.heap_alloc _ _ _ (hown.ty hk).2.1
 obtain ⟨A', c', w', hrun, h2, h3, h4⟩ := run_append_q (P := P) (w0.alloc (.cells #[v] e')) base t o.type e i z bytes ht hi hz hsize hby hzs hq w0.heap.size 1 v (by
  have hbk := heap_alloc_new w0 (.cells #[v] e')
  simp only [World.cell?, hbk]; rfl) h1 (by unfold maxLen; omega) (by have : (n + 1) * bytes ≤ 1099511627776 * 128 := Nat.mul_le_mul (by omega) hb; omega) (by rw [hs0]; omega)
 unfold Oper.wp execOp
 simp only [ho, resolve, invoke, builtin, Sem.run_bind, Sem.run_pure, Result.andThen_ok, List.map_toArray, List.map_cons, List.map_nil, hs, hx, hrun]
 rw [hs0] at h4
 exact hK _ _ (h A' c' w' (Lh h2) (Lh h3) (Lh h4))
end
end Go.Proofs.YtlmkokeapbleoaaGreat
