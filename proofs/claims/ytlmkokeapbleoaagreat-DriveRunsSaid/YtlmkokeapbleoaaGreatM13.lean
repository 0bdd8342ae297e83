/- Contracts and plain laws that the law's proof leans on: Ref19R Ref19B DrvCl Ref19C RTab. Condition: as each theorem says. -/
import Derived.Test.YtlmkokeapbleoaaGreatM12
import Derived.Test.YtlmkokeapbleoaaGreatM09
import Derived.Test.YtlmkokeapbleoaaGreatM06
import Derived.Test.YtlmkokeapbleoaaGreatM01
import Derived.Test.YtlmkokeapbleoaaGreatM05
set_option maxRecDepth 100000
set_option maxHeartbeats 64000000
set_option linter.unusedVariables false
set_option linter.unusedSimpArgs false
namespace Go.Proofs.YtlmkokeapbleoaaGreat
section
open Go.RowKit
def rdV (cs : Array Value) (s : DrvS) (ha : Option Addr) (hc : Nat) : Array Value := rdC cs s.1.node ha hc s.1.held s.2 s.1.rej
def RetRW (D : Nat → Prop) (cs : Array Value) (r : DrvS × List Int × Int) (W : World) (e : Ending) (W' : World) : Prop :=
 ∃ A c ha' hc', e = .returned (.tuple #[.agg (rdV cs r.1 ha' hc'), .slice A r.2.1.length c, .int .i64 r.2.2]) ∧ Hid (Below W.heap.size W W') ∧
  Hid (W'.ownsRow W.heap.size 5 1 (.slice A r.2.1.length c) r.2.1.length (r.2.1.map (Value.int .u8))) ∧ Hid (Dep (fun k => ¬ D k) W' (BytesAt ha' r.1.1.held))
theorem rw_end {Q : Ending → World → Prop} {a : Act} {Wx : World} {rb : Nat} {v u : Value} (hd : a.defers = []) (h2 : a.tmps.getD 4 undef = .pointer (some ⟨rb, 0, none⟩)) (h3 : a.tmps.getD 5 undef = v) (h4 : a.tmps.getD 6 undef = u) {old : Array Value} (hg : Wx.heap[rb]? = some (.cells old 81 (0, 0)))
  {C : Array Value} (hC : C.size = 263) (hq : Q (.returned (.tuple #[.agg C, v, u])) (Wx.setRow rb C)) : bodyPost Tryz.prog Tryz.f43 Q .ret a (Wx.setRow rb C) :=
 bodyPost_ret (v := .tuple #[.agg C, v, u]) (results_row3 rfl _ _ _ _ _ _ _ _ _ h2 h3 h4 (setRow_heap _ _ _ _ _ _ hg) Tryz.underlying81 rfl (by rw [hC]; exact info_refS)) hd hq
structure RwJ (D : Nat → Prop) (cs : Array Value) (T : TabI) (s0 : Drv.S) (bl : List Int) (z : Array Value) (W : World) (nb i : Nat) (sc : Drv.S) (ha : Option Addr) (hc : Nat) (A : Option Addr) (c : Nat) (o : List Int) (wr : World) : Prop where
 box : RdB W.heap.size (rdC cs sc.node ha hc sc.held false sc.rej) wr
 res : RdB (W.heap.size + 1) z wr
 row : wr.ownsRow nb 5 1 (.slice A o.length c) o.length (o.map (Value.int .u8))
 bel : Below W.heap.size W wr
 sz : nb ≤ wr.heap.size
 hld : Dep (fun k => ¬ D k ∧ k ≠ W.heap.size ∧ k ≠ W.heap.size + 1 ∧ ownA A ≠ some k) wr (BytesAt ha sc.held)
 ok : Drv.Ok (heldL T.L) T.L.nodes.length sc
 go : Drv.go (drvM T.L) s0 bl = ((Drv.go (drvM T.L) sc (bl.drop i)).1, o ++ (Drv.go (drvM T.L) sc (bl.drop i)).2)
theorem rWrite_st (D : Nat → Prop) (W : World) (cs : Array Value) (T : TabI) (s : DrvS) (ha : Option Addr) (hc : Nat) {B : Option Addr} {bl : List Int} (bc : Nat) (HT : Hid (TabC cs T ∧ TabOk T.L ∧ Drv.Ok (heldL T.L) T.L.nodes.length s.1)) (HG0 : Hid (∀ V, Below W.heap.size W V → TabW T V ∧ BytesAt B bl V)) (HH : Hid (Dep (fun k => ¬ D k) W (BytesAt ha s.1.held))) (HD : Hid (∀ k, D k → k < W.heap.size)) (hbl : bl.length ≤ 4096) :
  Calls Tryz.prog 43 #[.agg (rdV cs s ha hc), .slice B bl.length bc] W (RetRW D cs (wrS T.L s bl) W) := by
 have HG : Hid (∀ V, Below W.heap.size W V → TabW T V ∧ BytesAt ha s.1.held V ∧ BytesAt B bl V) := Lh fun V hV => ⟨(HG0.out V hV).1, HH.out.st V hV, (HG0.out V hV).2⟩
 have hs : cs.size = 259 := HT.out.1.size
 obtain ⟨z, hz⟩ : ∃ z, z = zeroR := ⟨_, rfl⟩
 have HZ : Hid ((Tryz.prog.info? 81).map (fun i => i.zero) = some (some (.agg z))) := Lh (by rw [hz]; exact info_refZ)
 have HZS : Hid (z.size = 263) := Lh (by rw [hz]; exact zeroR_size)
 clear hz
 obtain ⟨⟨s0, sc0⟩, hse⟩ : ∃ y, s = y := ⟨_, rfl⟩
 subst hse
 simp only at HT HG HH
 unfold rdV
 simp only
 obtain ⟨wa, hwa⟩ : ∃ y, W.alloc (.cells (rdC cs s0.node ha hc s0.held sc0 s0.rej) 81) = y := ⟨_, rfl⟩
 obtain ⟨wb, hwb⟩ : ∃ y, wa.alloc (.cells z 81) = y := ⟨_, rfl⟩
 have hsa : wa.heap.size = W.heap.size + 1 := by rw [← hwa]; simp
 have hsb : wb.heap.size = W.heap.size + 2 := by rw [← hwb]; simp [hsa]
 have HBA : Hid (Below W.heap.size W wa) := Lh (by rw [← hwa]; exact (Below.refl _ _).alloc (Nat.le_refl _) _)
 have HBB : Hid (Below W.heap.size W wb) := Lh (by rw [← hwb]; exact HBA.out.alloc (by omega) _)
 have HRB : Hid (RdB (W.heap.size + 1) z wb) := Lh (by rw [← hsa, ← hwb]; exact heap_alloc_new wa _)
 have HTB : Hid (RdB W.heap.size (rdC cs s0.node ha hc s0.held sc0 s0.rej) wb) := Lh (by
  have h1 : wa.heap[W.heap.size]? = some (.cells (rdC cs s0.node ha hc s0.held sc0 s0.rej) 81 (0, 0)) := by rw [← hwa]; exact heap_alloc_new W _
  rw [← hwb]
  exact (Below.heap_alloc _ _ _ (by omega)).trans h1)
 obtain ⟨C0, hC0⟩ : ∃ y, rdC cs s0.node ha hc s0.held sc0 s0.rej = y := ⟨_, rfl⟩
 have c262 := HTB.out.cRj hs
 have c261 := HTB.out.cCl hs
 rw [hC0] at hwa ⊢
 have HC0 := Lh hC0
 have HC0S : Hid (C0.size = 263 ∧ C0.all (·.oneCell') = true) := Lh (by rw [← hC0]; exact ⟨rdC_size hs, rdC_one HT.out.1⟩)
 have HI : Hid ((Tryz.prog.info? 81).map (·.size) = some C0.size) := Lh (by rw [HC0S.out.1]; exact info_refS)
 have HOL : Hid (z.size = C0.size) := Lh (by rw [HC0S.out.1, HZS.out])
 have HTB0 : Hid (RdB W.heap.size C0 wb) := Lh (by rw [← hC0]; exact HTB.out)
 have HSZ : Hid (wa.heap.size = W.heap.size + 1 ∧ wb.heap.size = W.heap.size + 2) := Lh ⟨hsa, hsb⟩
 clear hC0 hsb
 go_enter Tryz.func43, Tryz.ntmps43
 rcases hrj : s0.rej with _ | _
 case true =>
  rw [hrj] at c262
  have HE : Hid (wrS T.L (s0, sc0) bl = ((s0, sc0), [], 7)) := Lh (by
   have h : errI (s0, sc0) = 7 := by unfold errI; simp [hrj]
   unfold wrS; rw [if_pos (by rw [h]; decide), h])
  clear hrj
  go_wp2_with (first
   | (refine wpList_allocZ rfl 81 rfl z HZ.out ?_)
   | (refine wpList_load_row rfl 81 _ rfl W.heap.size rfl _ C0 _ _ HTB0.out Tryz.underlying81 rfl HI.out ?_)
   | (refine wpList_store_row rfl 81 _ _ rfl (W.heap.size + 1) C0 rfl rfl 81 z HRB.out HI.out HOL.out HC0S.out.2 ?_))
  refine rw_end (v := .slice none 0 0) (u := .int .i64 7) rfl rfl rfl rfl HRB.out HC0S.out.1 ⟨none, 0, ha, hc, ?_, Lh (setRow_below HBB.out (by omega) _), Lh ?_, Lh fun V hV => ?_⟩
  ·rw [HE.out]
   show _ = Ending.returned (.tuple #[.agg (rdC cs s0.node ha hc s0.held sc0 s0.rej), .slice none 0 0, .int .i64 7])
   rw [HC0.out]
  ·rw [HE.out]; exact World.ownsRow_nil _ _ _ _
  ·rw [HE.out]
   exact HH.out V fun k hk hl => by
    have q := HSZ.out
    rw [hV k hk (by simp [World.setRow]; omega), setRow_other _ _ _ _ (by omega)]
    exact HBB.out.block k hl
 rw [hrj] at c262
 have HRJ := Lh hrj
 clear hrj
 rcases hcl : sc0 with _ | _
 case true =>
  rw [hcl] at c261
  have HCL := Lh hcl
  have HE : Hid (wrS T.L (s0, true) bl = ((s0, true), [], 8)) := Lh (by
   have h : errI (s0, true) = 8 := by unfold errI; simp [HRJ.out]
   unfold wrS; rw [if_pos (by rw [h]; decide), h])
  clear hcl
  go_wp2_with (first
   | (refine wpList_allocZ rfl 81 rfl z HZ.out ?_)
   | (refine wpList_load_row rfl 81 _ rfl W.heap.size rfl _ C0 _ _ HTB0.out Tryz.underlying81 rfl HI.out ?_)
   | (refine wpList_store_row rfl 81 _ _ rfl (W.heap.size + 1) C0 rfl rfl 81 z HRB.out HI.out HOL.out HC0S.out.2 ?_))
  refine rw_end (v := .slice none 0 0) (u := .int .i64 8) rfl rfl rfl rfl HRB.out HC0S.out.1 ⟨none, 0, ha, hc, ?_, Lh (setRow_below HBB.out (by omega) _), Lh ?_, Lh fun V hV => ?_⟩
  ·rw [HE.out]
   show _ = Ending.returned (.tuple #[.agg (rdC cs s0.node ha hc s0.held true s0.rej), .slice none 0 0, .int .i64 8])
   have h := HC0.out
   rw [HCL.out] at h
   rw [h]
  ·rw [HE.out]; exact World.ownsRow_nil _ _ _ _
  ·rw [HE.out]
   exact HH.out V fun k hk hl => by
    have q := HSZ.out
    rw [hV k hk (by simp [World.setRow]; omega), setRow_other _ _ _ _ (by omega)]
    exact HBB.out.block k hl
 rw [hcl] at c261
 have HCL := Lh hcl
 have HE : Hid (wrS T.L (s0, false) bl = (((Drv.go (drvM T.L) s0 bl).1, false), (Drv.go (drvM T.L) s0 bl).2, if (Drv.go (drvM T.L) s0 bl).1.rej then 7 else 0)) := Lh (by
  have h : errI (s0, false) = 0 := by unfold errI; simp [HRJ.out]
  unfold wrS; rw [if_neg (by rw [h]; decide)])
 have HI0 : Hid (RwJ D cs T s0 bl z W wb.heap.size 0 s0 ha hc none 0 [] wb) := Lh (by
  have h := HTB.out
  rw [hcl] at h
  refine ⟨h, HRB.out, World.ownsRow_nil _ _ _ _, HBB.out, Nat.le_refl _, fun V hV => ?_, HT.out.2.2, by simp⟩
  have q := HSZ.out
  exact HH.out V fun k hk hl => (hV k ⟨hk, by omega, by omega, fun e => (by cases e)⟩ (by omega)).trans (HBB.out.block k hl))
 clear hcl
 go_wp2_with (refine wpList_allocZ rfl 81 rfl z HZ.out ?_)
 (try rw [hwb])
 go_loopw [7, 8] (fun ov iv wr => ∃ (i : Nat) (sc : Drv.S) (hak : Option Addr) (hck : Nat) (A : Option Addr) (c : Nat) (o : List Int), i ≤ bl.length ∧ iv = .int .i64 i ∧ ov = .slice A o.length c ∧ o.length ≤ 320 * i ∧ Hid (sc.rej = false) ∧ Hid (RwJ D cs T s0 bl z W wb.heap.size i sc hak hck A c o wr)) (fun _ iv _ => bl.length - (intOf iv).toNat)
 case atStart => exact ⟨0, s0, ha, hc, none, 0, [], Nat.zero_le _, rfl, rfl, Nat.zero_le _, HRJ, HI0⟩
 case round =>
 clear HI0 c262 c261
 obtain ⟨i, sc, hak, hck, A, c, o, hi1, rfl, rfl, hol, HSR, HIr⟩ := hrel
 obtain ⟨C2, hC2⟩ : ∃ y, rdC cs sc.node hak hck sc.held false sc.rej = y := ⟨_, rfl⟩
 have HC2 := Lh hC2
 have HC2S : Hid (C2.size = 263 ∧ C2.all (·.oneCell') = true) := Lh (by rw [← hC2]; exact ⟨rdC_size hs, rdC_one HT.out.1⟩)
 have HI2 : Hid ((Tryz.prog.info? 81).map (·.size) = some C2.size) := Lh (by rw [HC2S.out.1]; exact info_refS)
 have HBX : Hid (RdB W.heap.size C2 wr) := Lh (by rw [← hC2]; exact HIr.out.box)
 have HLT : Hid (W.heap.size + 1 < wb.heap.size) := Lh (by have := HSZ.out; omega)
 clear hC2
 by_cases hlt : i < bl.length
 case neg =>
  have hd1 : decide ((i : Int) < (bl.length : Int)) = false := by simp; omega
  have hd2 : ¬ (i : Int) < (bl.length : Int) := by omega
  have HGE : Hid (Drv.go (drvM T.L) s0 bl = (sc, o)) := Lh (by
   rw [HIr.out.go, List.drop_eq_nil_of_le (by omega), Drv.go_nil]; simp)
  have HEE : Hid (wrS T.L (s0, false) bl = ((sc, false), o, 0)) := Lh (by rw [HE.out, HGE.out]; simp [HSR.out])
  have HOL2 : Hid (z.size = C2.size) := Lh (by rw [HC2S.out.1, HZS.out])
  have HRS : Hid (RdB (W.heap.size + 1) z wr) := Lh HIr.out.res
  go_wp2_with (first
   | (refine wpList_load_row rfl 81 _ rfl W.heap.size rfl _ C2 _ _ HBX.out Tryz.underlying81 rfl HI2.out ?_)
   | (refine wpList_store_row rfl 81 _ _ rfl (W.heap.size + 1) C2 rfl rfl 81 z HRS.out HI2.out HOL2.out HC2S.out.2 ?_))
  refine rw_end (v := .slice A o.length c) (u := .int .i64 0) rfl rfl rfl rfl HRS.out HC2S.out.1 ⟨A, c, hak, hck, ?_, Lh (setRow_below HIr.out.bel (by omega) _), Lh ?_, Lh fun V hV => ?_⟩
  ·rw [HEE.out]
   show _ = Ending.returned (.tuple #[.agg (rdC cs sc.node hak hck sc.held false sc.rej), .slice A o.length c, .int .i64 0])
   rw [HC2.out]
  ·rw [HEE.out]
   have q := HLT.out
   exact own_keep (own_mono HIr.out.row (by omega)) fun k hk => setRow_other _ _ _ _ (by have := (own_ty HIr.out.row hk).1; omega)
  ·rw [HEE.out]
   exact HIr.out.hld V fun k hk hl => (hV k hk.1 (by simpa [World.setRow] using hl)).trans (setRow_other _ _ _ _ hk.2.2.1)
 have hlti : (i : Int) < (bl.length : Int) := by omega
 obtain ⟨b4, f4, x, rfl, hx, hx0, hx1, hcx⟩ := (HG.out wr HIr.out.bel).2.2.at_ hlt
 obtain ⟨⟨sn, on⟩, hgx⟩ : ∃ y, Drv.go (drvM T.L) sc [x] = y := ⟨_, rfl⟩
 have HGX := Lh hgx
 have HDR : Hid (bl.drop i = x :: bl.drop (i + 1)) := Lh (by
  have h := (List.getElem?_eq_some_iff.1 hx)
  rw [← h.2]; exact List.drop_eq_getElem_cons h.1)
 have HGN : Hid (Drv.go (drvM T.L) s0 bl = ((Drv.go (drvM T.L) sn (bl.drop (i + 1))).1, (o ++ on) ++ (Drv.go (drvM T.L) sn (bl.drop (i + 1))).2)) := Lh (by
  rw [HIr.out.go, HDR.out, Drv.go_one, hgx]; simp [List.append_assoc])
 have HOKN : Hid (Drv.Ok (heldL T.L) T.L.nodes.length sn) := Lh (by
  have h := Drv.Ok.go (drv_right HT.out.2.1) sc [x] HIr.out.ok
  rwa [hgx] at h)
 have HONL : Hid (on.length ≤ 320) := Lh (by
  have h := go_len HT.out.2.1 HIr.out.ok [x]
  rw [hgx] at h
  have h2 : sc.held.length ≤ 4 := drv_len HT.out.2.1 HIr.out.ok
  simp only [List.length_singleton] at h
  omega)
 have HCALL : Hid (Calls Tryz.prog 104 #[.agg C2, .int .u8 x] wr.drew (RetTk cs T sc false x wr.drew)) := Lh (by
  rw [← HC2.out]
  refine take_st sc.held.length wr.drew cs T sc false hak hck x rfl (Lh ⟨HT.out.1, HT.out.2.1, HIr.out.ok⟩) (Lh fun V hV => ?_) (Lh ⟨hx0, hx1⟩)
  have hV2 : Below wr.heap.size wr V := (Below.refl wr.heap.size wr).drew.trans hV
  exact ⟨(HG.out V (HIr.out.bel.trans (hV2.mono HIr.out.bel.size))).1, HIr.out.hld V fun k _ hl => hV2.block k hl⟩)
 have HTBL : Hid (W.heap.size < wr.heap.size) := Lh HIr.out.box.lt
 clear hx hgx HC2
 go_upto_region 10 with fail
 refine wp_region_Y 9 (by kernel_rfl) (fun V => Hid (RdB W.heap.size C2 V) ∧ V.cell? ⟨b4, f4 + i, none⟩ = some (.int .u8 x)) (fun _ => True) ⟨Lh HBX.out, hcx⟩ (fun hHeld => ?_)
 refine wpAnyY_take (i := 0) (v := .agg C2) [9, 10] rfl (by kernel_rfl) (by kernel_rfl) (by kernel_rfl) (by kernel_rfl) (by kernel_rfl) (fun _ _ _ h => h) (Or.inl ⟨by first | kernel_rfl | rfl, ?_⟩) (fun _ _ => trivial) (by assumption) ?_
 ·intro w hSw
  exact exec_load_part 81 (.tmp 2) rfl W.heap.size 0 rfl C2 _ (fun j v h => by rw [Nat.zero_add]; exact hSw.1.out.cell h) Tryz.underlying81 rfl HI2.out
 (try simp only [Act.put, zq1, zq2, zq3, zq4, zq5, zq6])
 refine wpAnyY_take2 (i := 1) (v := ?_) rfl (by kernel_rfl) (by kernel_rfl) (by kernel_rfl) (by kernel_rfl) (fun _ _ _ h => h) (Or.inl ⟨by first | kernel_rfl | rfl, ?_⟩) (fun _ _ => trivial) (by assumption) ?_
 rotate_left
 ·intro w hSw; (try dsimp only at hSw); go_simp; (try with_reducible rfl)
 (try simp only [Act.put, zq1, zq2, zq3, zq4, zq5, zq6])
 refine wpAnyY_take2 (i := 2) (v := ?_) rfl (by kernel_rfl) (by kernel_rfl) (by kernel_rfl) (by kernel_rfl) (fun _ _ _ h => h) (Or.inl ⟨by first | kernel_rfl | rfl, ?_⟩) (fun _ _ => trivial) (by assumption) ?_
 rotate_left
 ·intro w hSw; (try dsimp only at hSw); go_simp; (try with_reducible rfl)
 (try simp only [Act.put, zq1, zq2, zq3, zq4, zq5, zq6])
 refine wpAnyY_take2 (i := 3) (v := ?_) rfl (by kernel_rfl) (by kernel_rfl) (by kernel_rfl) (by kernel_rfl) (fun _ _ _ h => h) (Or.inl ⟨by first | kernel_rfl | rfl, ?_⟩) (fun _ _ => trivial) (by assumption) ?_
 rotate_left
 ·intro w hSw; (try dsimp only at hSw); go_simp; (try with_reducible rfl)
 (try simp only [Act.put, zq1, zq2, zq3, zq4, zq5, zq6])
 refine wpAnyY_take (i := 4) (v := ?_) [9, 10] rfl (by kernel_rfl) (by kernel_rfl) (by kernel_rfl) (by kernel_rfl) (by kernel_rfl) (fun _ _ _ h => h) (Or.inl ⟨by first | kernel_rfl | rfl, ?_⟩) (fun _ _ => trivial) (by assumption) ?_
 rotate_left
 ·intro w hSw; (try dsimp only at hSw); go_simp; (try with_reducible rfl)
 (try simp only [Act.put, zq1, zq2, zq3, zq4, zq5, zq6])
 refine wpAnyY_ready (i := 5) (by kernel_rfl) rfl (fun _ _ => trivial) (fun K hK => ?_)
 go_simp
 refine HCALL.out.mono ?_
 rintro e w6 ⟨An, cx, hxa, hxc, rfl, HB6, HO6, HD6⟩
 rw [HGX.out] at HO6 HD6
 rw [HGX.out]
 simp only at HO6 HD6 ⊢
 obtain ⟨C3, hC3⟩ : ∃ y, rdC cs sn.node hxa hxc sn.held false sn.rej = y := ⟨_, rfl⟩
 rw [hC3]
 have HC3 := Lh hC3
 have HC3S : Hid (C3.size = 263 ∧ C3.all (·.oneCell') = true) := Lh (by rw [← hC3]; exact ⟨rdC_size hs, rdC_one HT.out.1⟩)
 have HI3 : Hid ((Tryz.prog.info? 81).map (·.size) = some C3.size) := Lh (by rw [HC3S.out.1]; exact info_refS)
 have HOL3 : Hid (C2.size = C3.size) := Lh (by rw [HC2S.out.1, HC3S.out.1])
 have HBR : Hid (Below wr.heap.size wr w6) := Lh ((Below.refl wr.heap.size wr).drew.trans HB6.out)
 have HBX6 : Hid (RdB W.heap.size C2 w6) := Lh (HBX.out.keep (HBR.out.block _ HTBL.out))
 have hc6 : w6.cell? ⟨b4, f4 + i, none⟩ = some (.int .u8 x) := (HBR.out.cell (lt_of_cell hcx)).trans hcx
 clear hC3 HCALL
 refine hK.out _ _ (⟨Lh HBX6.out, hc6⟩) (fun hHeld => ?_)
 clear hK K
 (try simp only [Act.put, zq1, zq2, zq3, zq4, zq5, zq6])
 refine wpAnyY_take2 (i := 6) (v := ?_) rfl (by kernel_rfl) (by kernel_rfl) (by kernel_rfl) (by kernel_rfl) (fun _ _ _ h => h) (Or.inl ⟨by first | kernel_rfl | rfl, ?_⟩) (fun _ _ => trivial) (by assumption) ?_
 rotate_left
 ·intro w hSw; (try dsimp only at hSw); go_simp; (try with_reducible rfl)
 (try simp only [Act.put, zq1, zq2, zq3, zq4, zq5, zq6])
 refine wpAnyY_take2 (i := 7) (v := ?_) rfl (by kernel_rfl) (by kernel_rfl) (by kernel_rfl) (by kernel_rfl) (fun _ _ _ h => h) (Or.inl ⟨by first | kernel_rfl | rfl, ?_⟩) (fun _ _ => trivial) (by assumption) ?_
 rotate_left
 ·intro w hSw; (try dsimp only at hSw); go_simp; (try with_reducible rfl)
 (try simp only [Act.put, zq1, zq2, zq3, zq4, zq5, zq6])
 refine wpAnyY_take2 (i := 8) (v := ?_) rfl (by kernel_rfl) (by kernel_rfl) (by kernel_rfl) (by kernel_rfl) (fun _ _ _ h => h) (Or.inl ⟨by first | kernel_rfl | rfl, ?_⟩) (fun _ _ => trivial) (by assumption) ?_
 rotate_left
 ·intro w hSw; (try dsimp only at hSw); go_simp; (try with_reducible rfl)
 (try simp only [Act.put, zq1, zq2, zq3, zq4, zq5, zq6])
 refine wpAnyY_late (i := 9) (by kernel_rfl) (by kernel_rfl) rfl (fun K hK => ?_)
 (try rw [if_pos (by kernel_rfl)])
 refine wp_store_row 81 _ _ rfl W.heap.size C3 rfl rfl 81 C2 HBX6.out HI3.out HOL3.out HC3S.out.2 ?_
 obtain ⟨w7, hw7⟩ : ∃ y, w6.setRow W.heap.size C3 = y := ⟨_, rfl⟩
 rw [hw7]
 refine hK.out _ _ (trivial) ?_
 clear hK K
 (try simp only [Act.put, zq1, zq2, zq3, zq4, zq5, zq6])
 refine wpAnyY_last (i := 10) (by kernel_rfl) (by kernel_rfl) (by kernel_rfl) rfl (fun K hK => ?_)
 go_simp
 refine hK.out _ _ trivial ?_
 clear hK K hHeld
 have hst : ∀ k, k ≠ W.heap.size → w7.heap[k]? = w6.heap[k]? := fun k hk => by rw [← hw7]; exact setRow_other _ _ _ _ hk
 have hs7 : w7.heap.size = w6.heap.size := by rw [← hw7]; simp [World.setRow]
 have HST := Lh hst
 have HS7 := Lh hs7
 have HBX7 : Hid (RdB W.heap.size C3 w7) := Lh (by rw [← hw7]; exact HBX6.out.row C3)
 have HBW7 : Hid (Below W.heap.size W w7) := Lh (by rw [← hw7]; exact setRow_below (HIr.out.bel.trans (HBR.out.mono HIr.out.bel.size)) (Nat.le_refl _) _)
 have HSZ2 : Hid (wb.heap.size ≤ wr.heap.size ∧ wr.heap.size ≤ w6.heap.size ∧ W.heap.size + 1 < wb.heap.size) := Lh ⟨HIr.out.sz, HBR.out.size, HLT.out⟩
 have HOA : Hid (w7.ownsRow wb.heap.size 5 1 (.slice A o.length c) o.length (o.map (Value.int .u8))) := Lh (own_keep (own_keep HIr.out.row fun k hk => HBR.out.block k (own_ty HIr.out.row hk).2.1) fun k hk => hst k (by have := (own_ty HIr.out.row hk).1; have := HLT.out; omega))
 have HSLN : Hid (Sl w7 1 An on.length (on.map (Value.int .u8))) := Lh (Sl.of_own (own_keep HO6.out fun k hk => hst k (by have h := (own_ty HO6.out hk).1; have := HTBL.out; have h2 : wr.heap.size ≤ k := h; omega)))
 have honl := HONL.out
 have h63 : o.length + on.length ≤ maxLen := by unfold maxLen; omega
 have hby : (o.length + on.length) * 1 ≤ 140737488355328 := by omega
 have hbw : wb.heap.size ≤ w7.heap.size := by have := HSZ2.out; omega
 obtain ⟨i0, hi, hz0, hz1, hz2⟩ := info_parts infoByteD
 clear hst hs7 hw7 honl hc6 hcx
 go_upto_region 12 with (at_builtin; go_must (refine wpList_append_slN _ rfl _ _ 79 rfl wb.heap.size 5 i0 _ 1 1 Tryz.underlying79 hi hz0 hz1 hz2 rfl (by decide) HOA.out rfl HSLN.out rfl (bytes_one on) h63 hby hbw ?_); intro A8 c8 w8 HO8 HG8 HN8)
 have HRES7 : Hid (RdB (W.heap.size + 1) z w7) := Lh ((HIr.out.res.keep (HBR.out.block _ HIr.out.res.lt)).keep (HST.out _ (by omega)))
 have HA : Hid (∀ k, ownA A = some k → wb.heap.size ≤ k ∧ k < wr.heap.size) := Lh fun k hk => ⟨(own_ty HIr.out.row hk).1, (own_ty HIr.out.row hk).2.1⟩
 have H78 : Hid (∀ k, k < w7.heap.size → ownA A ≠ some k → w8.heap[k]? = w7.heap[k]?) := Lh fun k hk hn => HG8.out.block k hk fun e => hn e.symm
 have HBX8 : Hid (RdB W.heap.size C3 w8) := Lh (HBX7.out.keep (H78.out _ HBX7.out.lt fun e => by have := HA.out _ e; have := HSZ2.out; omega))
 have HRES8 : Hid (RdB (W.heap.size + 1) z w8) := Lh (HRES7.out.keep (H78.out _ HRES7.out.lt fun e => by have := HA.out _ e; have := HSZ2.out; omega))
 have HBW8 : Hid (Below W.heap.size W w8) := Lh (HBW7.out.grown HG8.out HBW7.out.size fun k hk => by have := HA.out k hk; have := HSZ2.out; omega)
 have HD8 : Hid (Dep (fun k => ¬ D k ∧ k ≠ W.heap.size ∧ k ≠ W.heap.size + 1 ∧ ownA A8 ≠ some k) w8 (BytesAt hxa sn.held)) := Lh fun V hV => by
  have q2 := HSZ2.out
  have q7 := HS7.out
  have q8 := HG8.out.size
  refine HD6.out V fun k hk hl => ?_
  have hk' : wr.heap.size ≤ k := hk
  have n1 : ownA A ≠ some k := fun e => by have := HA.out k e; omega
  rw [hV k ⟨fun e => by have := HD.out k e; omega, by omega, by omega, fun e => ?_⟩ (by omega), H78.out k (by omega) n1, HST.out k (by omega)]
  rcases HN8.out with h | ⟨g, h, hg⟩
  ·rw [h] at e; exact n1 e
  ·rw [h] at e; injection e with e; omega
 have HO9 : Hid (w8.ownsRow wb.heap.size 5 1 (.slice A8 (o ++ on).length c8) (o ++ on).length ((o ++ on).map (Value.int .u8))) := Lh (by rw [List.length_append, List.map_append]; exact HO8.out)
 have c262 : w8.cell? ⟨W.heap.size, 262, none⟩ = some (.bool sn.rej) := by
  have h := HBX8.out
  rw [← HC3.out] at h
  exact h.cRj hs
 clear h63 hby
 rcases hrn : sn.rej with _ | _
 case true =>
  rw [hrn] at c262
  have HRN := Lh hrn
  have HGE : Hid (Drv.go (drvM T.L) s0 bl = (sn, o ++ on)) := Lh (by rw [HGN.out, Drv.go_rej _ _ hrn]; simp)
  have HEE : Hid (wrS T.L (s0, false) bl = ((sn, false), o ++ on, 7)) := Lh (by rw [HE.out, HGE.out]; simp [hrn])
  have HOL4 : Hid (z.size = C3.size) := Lh (by rw [HC3S.out.1, HZS.out])
  clear hrn
  go_wp2_with (first
   | (refine wpList_load_row rfl 81 _ rfl W.heap.size rfl _ C3 _ _ HBX8.out Tryz.underlying81 rfl HI3.out ?_)
   | (refine wpList_store_row rfl 81 _ _ rfl (W.heap.size + 1) C3 rfl rfl 81 z HRES8.out HI3.out HOL4.out HC3S.out.2 ?_))
  refine rw_end (v := .slice A8 (o.length + on.length) c8) (u := .int .i64 7) rfl rfl rfl rfl HRES8.out HC3S.out.1 ⟨A8, c8, hxa, hxc, ?_, Lh (setRow_below HBW8.out (by omega) _), Lh ?_, Lh fun V hV => ?_⟩
  ·rw [HEE.out]
   show _ = Ending.returned (.tuple #[.agg (rdC cs sn.node hxa hxc sn.held false sn.rej), .slice A8 (o ++ on).length c8, .int .i64 7])
   rw [HC3.out, List.length_append]
  ·rw [HEE.out]
   have q := HLT.out
   exact own_keep (own_mono HO9.out (by omega)) fun k hk => setRow_other _ _ _ _ (by have := (own_ty HO9.out hk).1; omega)
  ·rw [HEE.out]
   exact HD8.out V fun k hk hl => (hV k hk.1 (by simpa [World.setRow] using hl)).trans (setRow_other _ _ _ _ hk.2.2.1)
 rw [hrn] at c262
 have HRN := Lh hrn
 clear hrn
 go_wp2_with fail
 go_roundw
 case rel =>
  refine ⟨i + 1, sn, hxa, hxc, A8, c8, o ++ on, by omega, by go_num, by rw [List.length_append], by rw [List.length_append]; have := HONL.out; omega, HRN, Lh ⟨by rw [HC3.out]; exact HBX8.out, HRES8.out, HO9.out, HBW8.out, by have := HSZ2.out; have := HS7.out; have := HG8.out.size; omega, HD8.out, HOKN.out, HGN.out⟩⟩
 case measure => simp [intOf]; omega
end
section
open Go.RowKit
def refT : List Value := [.int .i64 0, .slice none 0 0, .bool false, .bool false]
def refPl : Array (Nat × Nat) := #[(0, 259), (259, 1), (260, 1), (261, 1), (262, 1)]
theorem ref_built1 (v : Value) : Tryz.prog.built 81 [(0, v)] = Instr.fill (refPl[·]?) zeroR [(0, v)] := by kernel_rfl
theorem ref_built2 (v x : Value) : Tryz.prog.built 81 [(0, v), (4, x)] = Instr.fill (refPl[·]?) zeroR [(0, v), (4, x)] := by kernel_rfl
theorem fill_ref (cs : Array Value) (hs : cs.size = 259) (rest : List (Nat × Value)) : Instr.fill (refPl[·]?) zeroR ((0, .agg cs) :: rest) = Instr.fill (refPl[·]?) (cs.toList ++ refT).toArray rest := by
 have e1 : (Value.agg cs).cells = cs := rfl
 have e2 : (cs.zipIdx.foldl (fun (a : Array Value) (x : Value × Nat) => a.setIfInBounds (0 + x.2) x.1) zeroR) = (cs.toList ++ refT).toArray := by
  apply Array.ext_getElem?
  intro i
  have e3 : cs.zipIdx.foldl (fun (a : Array Value) (x : Value × Nat) => a.setIfInBounds (0 + x.2) x.1) zeroR = (cs.toList.zipIdx 0).foldl (fun (a : Array Value) (x : Value × Nat) => a.setIfInBounds (0 + x.2) x.1) zeroR := by
   rw [← Array.foldl_toList, Array.toList_zipIdx]
  have hl : cs.toList.length = 259 := by simp [hs]
  have er : (cs.toList ++ refT).toArray[i]? = (cs.toList ++ refT)[i]? := List.getElem?_toArray ..
  rw [e3, foldl_fill, zeroR_size, hl, er]
  by_cases h : i < 259
  ·rw [if_pos (by omega), List.getElem?_append_left (by omega), Nat.sub_zero]
  ·rw [if_neg (by omega), List.getElem?_append_right (by omega), hl]
   obtain ⟨j, rfl⟩ : ∃ j, i = 259 + j := ⟨i - 259, by omega⟩
   rw [Nat.add_sub_cancel_left]
   have h3 : zeroR[259 + j]? = refT[j]? := by
    have e4 : zeroR = (List.replicate 256 (Value.int .u8 0) ++ ([Value.slice none 0 0, .slice none 0 0, .slice none 0 0] ++ refT)).toArray := rfl
    rw [e4, List.getElem?_toArray, List.getElem?_append_right (by rw [List.length_replicate]; omega), List.length_replicate, show 259 + j - 256 = 3 + j by omega, List.getElem?_append_right (by simp)]
    simp
   exact h3
 show (if (Value.agg cs).cells.size ≠ 259 || 0 + (Value.agg cs).cells.size > zeroR.size then none else Instr.fill (refPl[·]?) ((Value.agg cs).cells.zipIdx.foldl (fun a (c, j) => a.setIfInBounds (0 + j) c) zeroR) rest) = _
 rw [e1, hs, zeroR_size, if_neg (by decide), e2]
theorem built_ref (cs : Array Value) (hs : cs.size = 259) : Tryz.prog.built 81 [(0, .agg cs)] = some (rdC cs 0 none 0 [] false false) := by
 rw [ref_built1, fill_ref cs hs]; rfl
theorem built_refR (cs : Array Value) (hs : cs.size = 259) : Tryz.prog.built 81 [(0, .agg cs), (4, .bool true)] = some (rdC cs 0 none 0 [] false true) := by
 rw [ref_built2, fill_ref cs hs]
 have hl : cs.toList.length = 259 := by simp [hs]
 have e : (#[Value.bool true].zipIdx.foldl (fun (a : Array Value) (x : Value × Nat) => a.setIfInBounds (262 + x.2) x.1) (cs.toList ++ refT).toArray) = (cs.toList ++ refT.set 3 (.bool true)).toArray := by
  show (cs.toList ++ refT).toArray.setIfInBounds (259 + 3) (.bool true) = _
  rw [List.setIfInBounds_toArray, List.set_append_right _ _ (by omega), hl, Nat.add_sub_cancel_left]
 have e2 : Instr.fill (refPl[·]?) (cs.toList ++ refT).toArray [(4, .bool true)] = (match refPl[4]? with
  | none => none
  | some (off, size) => if (Value.bool true).cells.size ≠ size || off + (Value.bool true).cells.size > (cs.toList ++ refT).toArray.size then none else Instr.fill (refPl[·]?) ((Value.bool true).cells.zipIdx.foldl (fun a (c, j) => a.setIfInBounds (off + j) c) (cs.toList ++ refT).toArray) []) := rfl
 rw [e2, show refPl[4]? = some (262, 1) from rfl, show (Value.bool true).cells = #[Value.bool true] from rfl]
 simp only
 rw [if_neg (by simp [hl, refT]), e]
 rfl
end
section
open Go.RowKit Go.Shelf
def RetCl (D : Nat → Prop) (db : Nat) (cs : Array Value) (T : TabI) (s : DrvS) (W : World) (e : Ending) (W' : World) : Prop :=
 ∃ A c ha' hc', e = .returned (.tuple #[.slice A (clS T.L s).2.1.length c, .int .i64 (clS T.L s).2.2]) ∧ Hid (DrvK D db cs T (clS T.L s).1 ha' hc' W') ∧ Hid (BelD (fun k => k = db) W W') ∧ Hid (∀ V, BelD D W' V → BytesAt A (clS T.L s).2.1 V) ∧ Hid (W'.ownsRow W.heap.size 5 1 (.slice A (clS T.L s).2.1.length c) (clS T.L s).2.1.length ((clS T.L s).2.1.map (Value.int .u8))) ∧ Hid ((clS T.L s).2.1.length ≤ 64)
section
variable {D : Nat → Prop} {db : Nat} {cs : Array Value} {T : TabI} {s : DrvS} {ha : Option Addr} {hc : Nat} {W : World}
theorem end_at {T : TabI} {j : Nat} {o : OutI} (h : T.es[j]? = some o) : T.L.ends[j]? = some o.L := by
 rw [show T.L.ends = T.es.map OutI.L from rfl, List.getElem?_map, h]; rfl
theorem Close_st (HKD : Hid (DrvK D db cs T s ha hc W)) :
  Calls Tryz.prog 40 #[.pointer (some ⟨db, 0, none⟩)] W (RetCl D db cs T s W) := by
 have hs := HKD.out.tc.size
 by_cases he : errI s ≠ 0
 ·have HW : Hid (clS T.L s = (s, [], errI s)) := Lh (by unfold clS; rw [if_pos he])
  have hne : (errI s != 0) = true := by rw [bne_iff_ne]; exact he
  go_enter Tryz.func40, Tryz.ntmps40
  go_wp2_with fail
  refine (fault_st HKD.out.box hs).mono ?_
  rintro e w1 ⟨rfl, rfl⟩
  clear he
  go_wp2_with fail
  go_ret2
  refine ⟨none, 0, ha, hc, by rw [HW.out]; rfl, by rw [HW.out]; exact HKD, Lh (BelD.refl _ _), Lh fun V _ => ?_, Lh ?_, Lh (by rw [HW.out]; exact Nat.zero_le _)⟩
  ·rw [HW.out]
   exact BytesAt.nil_ _ _
  ·rw [HW.out]
   exact World.ownsRow_nil _ _ _ _
 have he0 : errI s = 0 := Classical.not_not.1 he
 obtain ⟨hrj, hcl⟩ : s.1.rej = false ∧ s.2 = false := by
  unfold errI at he0
  rcases h1 : s.1.rej with _ | _
  ·rcases h2 : s.2 with _ | _
   ·exact ⟨rfl, rfl⟩
   ·rw [h1, h2] at he0; simp at he0
  ·rw [h1] at he0; simp at he0
 obtain ⟨s0, sc0⟩ := s
 simp only at hrj hcl
 subst hcl
 have HW : Hid (clS T.L (s0, false) = if endL' T.L s0.node < 0 then ((Drv.rejd, false), [], 7) else ((s0, true), wrB (T.L.ends.getD (endL' T.L s0.node).toNat []) s0.held, 0)) := Lh (by unfold clS; rw [if_neg (by simpa using he)])
 have HRJ := Lh hrj
 have hne : (errI (s0, false) != 0) = false := by rw [he0]; rfl
 have hnl : s0.node < T.ns.length := by have := HKD.out.sok.lt; rwa [nodesL_len] at this
 have htw := (HKD.out.dep W (BelD.refl _ _)).1
 obtain ⟨nb, noff, n, hnA, hnx, hnw, m0, m1, m2⟩ := htw.nodes.at_ hnl
 have hLn : T.L.nodes[s0.node]? = some n.L := nodesL_at hnx
 have hend : endL' T.L s0.node = n.e := by unfold endL'; rw [hLn]; rfl
 have hno := HKD.out.ok.nodes n.L (List.mem_of_getElem? hLn)
 have d256 := HKD.out.box.cell (drvC_lo HKD.out.tc.c1)
 have d259 := HKD.out.box.cNode hs
 simp only at d259
 rw [hnA] at d256
 have HFA : Hid (∀ V, Below W.heap.size W V → V.cell? ⟨db, 256, none⟩ = some (.slice (some ⟨nb, noff, none⟩) T.ns.length T.nc) ∧ V.cell? ⟨db, 259, none⟩ = some (.int .i64 s0.node) ∧ V.cell? ⟨nb, noff + s0.node * 3, none⟩ = some (.int .i64 n.h) ∧ V.cell? ⟨nb, noff + s0.node * 3 + 1, none⟩ = some (.slice n.na n.nx.length n.nc) ∧ V.cell? ⟨nb, noff + s0.node * 3 + 2, none⟩ = some (.int .i64 n.e)) := Lh fun V hV =>
  ⟨(hV.cell (lt_of_cell d256)).trans d256, (hV.cell (lt_of_cell d259)).trans d259, (hV.cell (lt_of_cell m0)).trans m0, (hV.cell (lt_of_cell m1)).trans m1, (hV.cell (lt_of_cell m2)).trans m2⟩
 have HEND := Lh hend
 have HNO := Lh hno
 have hnode : (s0.node : Int) < (T.ns.length : Int) := by omega
 clear he hrj htw hnA hnx hnw m0 m1 m2 hLn hend hno d256 d259
 go_enter Tryz.func40, Tryz.ntmps40
 go_wp2_with fail
 refine (fault_st HKD.out.box hs).mono ?_
 rintro e w1 ⟨rfl, rfl⟩
 rw [he0]
 clear hne he0
 go_wp2_with fail
 refine wp_region_Z 12 (by kernel_rfl) (fun V => V.cell? ⟨db, 256, none⟩ = some (.slice (some ⟨nb, noff, none⟩) T.ns.length T.nc) ∧ V.cell? ⟨db, 259, none⟩ = some (.int .i64 s0.node) ∧ V.cell? ⟨nb, noff + s0.node * 3, none⟩ = some (.int .i64 n.h) ∧ V.cell? ⟨nb, noff + s0.node * 3 + 1, none⟩ = some (.slice n.na n.nx.length n.nc) ∧ V.cell? ⟨nb, noff + s0.node * 3 + 2, none⟩ = some (.int .i64 n.e)) (HFA.out _ (Below.refl _ W).drew) (fun hHeld => ?_)
 refine zt (v := ?_) 0 rfl ?_ ?_
 rotate_left
 ·intro w hSw; (try dsimp only at hSw); go_simp; (try with_reducible rfl)
 (try simp only [Act.put, zq1, zq2, zq3, zq4, zq5, zq6])
 refine zt (v := ?_) 1 rfl ?_ ?_
 rotate_left
 ·intro w hSw; (try dsimp only at hSw); go_simp; (try with_reducible rfl)
 (try simp only [Act.put, zq1, zq2, zq3, zq4, zq5, zq6])
 refine zt (v := ?_) 2 rfl ?_ ?_
 rotate_left
 ·intro w hSw; (try dsimp only at hSw); go_simp; (try with_reducible rfl)
 (try simp only [Act.put, zq1, zq2, zq3, zq4, zq5, zq6])
 refine zt (v := ?_) 3 rfl ?_ ?_
 rotate_left
 ·intro w hSw; (try dsimp only at hSw); go_simp; (try with_reducible rfl)
 (try simp only [Act.put, zq1, zq2, zq3, zq4, zq5, zq6])
 refine zt (v := ?_) 4 rfl ?_ ?_
 rotate_left
 ·intro w hSw; (try dsimp only at hSw); go_simp; (try with_reducible rfl)
 (try simp only [Act.put, zq1, zq2, zq3, zq4, zq5, zq6])
 refine zt (v := ?_) 5 rfl ?_ ?_
 rotate_left
 ·intro w hSw; (try dsimp only at hSw); go_simp; (try with_reducible rfl)
 (try simp only [Act.put, zq1, zq2, zq3, zq4, zq5, zq6])
 refine zt (v := ?_) 6 rfl ?_ ?_
 rotate_left
 ·intro w hSw; (try dsimp only at hSw); go_simp; (try with_reducible rfl)
 (try simp only [Act.put, zq1, zq2, zq3, zq4, zq5, zq6])
 refine zt (v := ?_) 7 rfl ?_ ?_
 rotate_left
 ·intro w hSw; (try dsimp only at hSw); go_simp; (try with_reducible rfl)
 (try simp only [Act.put, zq1, zq2, zq3, zq4, zq5, zq6])
 refine zt (v := ?_) 8 rfl ?_ ?_
 rotate_left
 ·intro w hSw; (try dsimp only at hSw); go_simp; (try with_reducible rfl)
 (try simp only [Act.put, zq1, zq2, zq3, zq4, zq5, zq6])
 refine zt (v := ?_) 9 rfl ?_ ?_
 rotate_left
 ·intro w hSw; (try dsimp only at hSw); go_simp; (try with_reducible rfl)
 (try simp only [Act.put, zq1, zq2, zq3, zq4, zq5, zq6])
 refine zt (v := ?_) 10 rfl ?_ ?_
 rotate_left
 ·intro w hSw; (try dsimp only at hSw); go_simp; (try with_reducible rfl)
 (try simp only [Act.put, zq1, zq2, zq3, zq4, zq5, zq6])
 refine wpAnyZ_ready (i := 11) (by kernel_rfl) rfl (fun K hK => ?_)
 go_simp
 refine hK.out _ _ ((HFA.out _ ((Below.refl _ W).drew.alloc (Nat.le_refl _) _))) (fun hHeld => ?_)
 clear hK K
 (try simp only [Act.put, zq1, zq2, zq3, zq4, zq5, zq6])
 refine wpAnyZ_last (i := 12) rfl (by kernel_rfl) (by kernel_rfl) rfl (fun K hK => ?_)
 go_simp
 refine hK.out _ _ ?_
 clear hK K hHeld
 obtain ⟨w4, hw4⟩ : ∃ z, (W.alloc (.cells #[.int .i64 n.h, .slice n.na n.nx.length n.nc, .int .i64 n.e] 64)).drew = z := ⟨_, rfl⟩
 have hb4 : Below W.heap.size W w4 := by rw [← hw4]; exact ((Below.refl _ W).alloc (Nat.le_refl _) _).drew
 have hxx : w4.heap[W.heap.size]? = some (.cells #[.int .i64 n.h, .slice n.na n.nx.length n.nc, .int .i64 n.e] 64 (0, 0)) := by rw [← hw4]; exact heap_alloc_new W _
 have y2 : w4.cell? ⟨W.heap.size, 2, none⟩ = some (.int .i64 n.e) := by simp [World.cell?, hxx]
 have HB4 := Lh hb4
 have HXX := Lh hxx
 have hst : stI (s0, false) = 0 := by unfold stI; rw [HRJ.out]; rfl
 have hbox := HKD.out.box.keep (hb4.block _ HKD.out.box.lt)
 rw [hst] at hbox
 have HBOX : Hid (DrvB db cs s0.node ha hc s0.held 0 w4) := Lh hbox
 have HLT : Hid (db < W.heap.size ∧ ∀ k, D k → k < W.heap.size) := Lh ⟨HKD.out.box.lt, HKD.out.lt⟩
 clear hb4 hxx hst hbox
 by_cases hf : n.e < 0
 ·have HW2 : Hid (clS T.L (s0, false) = ((Drv.rejd, false), [], 7)) := Lh (by rw [HW.out, HEND.out, if_pos hf])
  go_wp2_with fail
  (try rw [hw4])
  refine (reject_st HBOX.out hs).mono ?_
  rintro e w5 ⟨rfl, HB5, HE5⟩
  go_wp2_with fail
  go_ret2
  have hbd : BelD (fun k => k = db) W w5 := (BelD.of_below HB4.out).trans HE5.out
  refine ⟨none, 0, none, 0, by rw [HW2.out]; rfl, Lh ?_, Lh hbd, Lh fun V _ => ?_, Lh ?_, Lh (by rw [HW2.out]; exact Nat.zero_le _)⟩
  ·rw [HW2.out]
   exact ⟨HB5.out, HKD.out.tc, HKD.out.ok, ⟨(drv_right HKD.out.ok).pos, by simp [Drv.rejd, (drv_right HKD.out.ok).zero], fun _ => rfl⟩, fun V hV => ⟨(HKD.out.dep V ((hbd.mono fun k (e : k = db) => (e ▸ HKD.out.mem : D k)).trans hV)).1, BytesAt.nil_ _ _⟩, HKD.out.mem, fun k hk => Nat.lt_of_lt_of_le (HKD.out.lt k hk) hbd.size⟩
  ·rw [HW2.out]; exact BytesAt.nil_ _ _
  ·rw [HW2.out]; exact World.ownsRow_nil _ _ _ _
 obtain ⟨fn, hfn⟩ : ∃ fn : Nat, n.e = (fn : Int) := Int.eq_ofNat_of_zero_le (by omega)
 have hfl : fn < T.es.length := by
  have h := HNO.out.1.2.2.2.2
  rw [show T.L.ends = T.es.map OutI.L from rfl, List.length_map, show n.L.fin = n.e from rfl] at h
  omega
 obtain ⟨eb, eoff, o, heA, heo, hew, ec⟩ := (HKD.out.dep W (BelD.refl _ _)).1.ends.at_ hfl
 have hLe : T.L.ends[fn]? = some o.L := end_at heo
 have HW2 : Hid (clS T.L (s0, false) = ((s0, true), wrB o.L s0.held, 0)) := Lh (by
  rw [HW.out, HEND.out, if_neg hf, hfn, Int.toNat_natCast, List.getD_eq_getElem?_getD, hLe]; rfl)
 have HTO : Hid (∀ t ∈ o.l, NumsOk t.L) := Lh fun t ht => by
  obtain ⟨l, q1, q2⟩ := HNO.out.2.1 (by rw [show n.L.fin = n.e from rfl]; omega)
  rw [show n.L.fin = n.e from rfl, hfn, Int.toNat_natCast, hLe] at q1
  injection q1 with q1
  exact (q2 t.L (by rw [← q1]; exact List.mem_map.2 ⟨t, ht, rfl⟩)).1
 have hol : o.l.length ≤ 64 := by
  have h := HKD.out.ok.ends o.L (List.mem_of_getElem? hLe)
  rwa [show o.L = o.l.map TermI.L from rfl, List.length_map] at h
 have hh4 : s0.held.length ≤ 4 := drv_len HKD.out.ok HKD.out.sok
 have f1 := HBOX.out.fz 261
 have p1 := HBOX.out.cState hs
 obtain ⟨w5, hw5⟩ : ∃ z, w4.setCell ⟨db, 261, none⟩ (.int .i64 1) = z := ⟨_, rfl⟩
 have HBX : Hid (DrvB db cs s0.node ha hc s0.held 1 w5) := Lh (by rw [← hw5]; exact HBOX.out.setState hs 1)
 have HBD : Hid (BelD (fun k => k = db) W w5) := Lh (by rw [← hw5]; exact (BelD.of_below (D := fun k => k = db) HB4.out).setCell rfl _ _)
 have e258 := HBX.out.cell (drvC_lo HKD.out.tc.c3)
 have e260 := HBX.out.cHeld hs
 rw [heA] at e258
 have ec5 : w5.cell? ⟨eb, eoff + fn, none⟩ = some (.slice o.a o.l.length o.c) := by
  obtain ⟨b', o', z, hA2, hz, -, hcz⟩ := (HKD.out.dep w5 (HBD.out.mono fun k (e : k = db) => (e ▸ HKD.out.mem : D k))).1.ends.at_ hfl
  rw [heA] at hA2
  injection hA2 with e; injection e with e1 e2; subst e1 e2
  rw [heo] at hz; injection hz with hz; subst hz
  exact hcz
 have ey : w5.cell? ⟨W.heap.size, 2, none⟩ = some (.int .i64 (fn : Int)) := by
  have h : w5.heap[W.heap.size]? = w4.heap[W.heap.size]? := by rw [← hw5]; exact heap_setCell_other _ _ _ _ (by have := HLT.out.1; show W.heap.size ≠ db; omega)
  rw [← hfn, ← y2]; exact World.cell?_of_block h
 have HFB : Hid (∀ V, Below w5.heap.size w5 V → V.cell? ⟨db, 258, none⟩ = some (.slice (some ⟨eb, eoff, none⟩) T.es.length T.ec) ∧ V.cell? ⟨db, 260, none⟩ = some (.slice ha s0.held.length hc) ∧ V.cell? ⟨eb, eoff + fn, none⟩ = some (.slice o.a o.l.length o.c) ∧ V.cell? ⟨W.heap.size, 2, none⟩ = some (.int .i64 (fn : Int))) := Lh fun V hV =>
  ⟨(hV.cell (lt_of_cell e258)).trans e258, (hV.cell (lt_of_cell e260)).trans e260, (hV.cell (lt_of_cell ec5)).trans ec5, (hV.cell (lt_of_cell ey)).trans ey⟩
 have hfi : (fn : Int) < (T.es.length : Int) := by omega
 have HEO := Lh heo
 have HDW : Hid (∀ V, BelD (OwnR none) w5.drew V → TermsAt o.a o.l V ∧ BytesAt ha s0.held V) := Lh fun V hV => by
  have h1 : BelD D W V := (HBD.out.mono fun k (e : k = db) => (e ▸ HKD.out.mem : D k)).trans ⟨hV.os, hV.tape, hV.output, hV.size, fun k hk _ => hV.block k hk (fun e => (by cases e))⟩
  have h2 := HKD.out.dep V h1
  exact ⟨h2.1.ends.it o (List.mem_of_getElem? HEO.out), h2.2⟩
 have HFN := Lh hfn
 clear heA hew ec hLe heo e258 e260 ec5 ey hfn
 go_wp2_with fail
 (try rw [hw5])
 refine wp_region_Z 15 (by kernel_rfl) (fun V => V.cell? ⟨db, 258, none⟩ = some (.slice (some ⟨eb, eoff, none⟩) T.es.length T.ec) ∧ V.cell? ⟨db, 260, none⟩ = some (.slice ha s0.held.length hc) ∧ V.cell? ⟨eb, eoff + fn, none⟩ = some (.slice o.a o.l.length o.c) ∧ V.cell? ⟨W.heap.size, 2, none⟩ = some (.int .i64 (fn : Int))) (HFB.out _ (Below.refl _ w5).drew) (fun hHeld => ?_)
 refine zt (v := ?_) 0 rfl ?_ ?_
 rotate_left
 ·intro w hSw; (try dsimp only at hSw); go_simp; (try with_reducible rfl)
 (try simp only [Act.put, zq1, zq2, zq3, zq4, zq5, zq6])
 refine zt (v := ?_) 1 rfl ?_ ?_
 rotate_left
 ·intro w hSw; (try dsimp only at hSw); go_simp; (try with_reducible rfl)
 (try simp only [Act.put, zq1, zq2, zq3, zq4, zq5, zq6])
 refine zt (v := ?_) 2 rfl ?_ ?_
 rotate_left
 ·intro w hSw; (try dsimp only at hSw); go_simp; (try with_reducible rfl)
 (try simp only [Act.put, zq1, zq2, zq3, zq4, zq5, zq6])
 refine zt (v := ?_) 3 rfl ?_ ?_
 rotate_left
 ·intro w hSw; (try dsimp only at hSw); go_simp; (try with_reducible rfl)
 (try simp only [Act.put, zq1, zq2, zq3, zq4, zq5, zq6])
 refine zt (v := ?_) 4 rfl ?_ ?_
 rotate_left
 ·intro w hSw; (try dsimp only at hSw); go_simp; (try with_reducible rfl)
 (try simp only [Act.put, zq1, zq2, zq3, zq4, zq5, zq6])
 refine zt (v := ?_) 5 rfl ?_ ?_
 rotate_left
 ·intro w hSw; (try dsimp only at hSw); go_simp; (try with_reducible rfl)
 (try simp only [Act.put, zq1, zq2, zq3, zq4, zq5, zq6])
 refine zt (v := ?_) 6 rfl ?_ ?_
 rotate_left
 ·intro w hSw; (try dsimp only at hSw); go_simp; (try with_reducible rfl)
 (try simp only [Act.put, zq1, zq2, zq3, zq4, zq5, zq6])
 refine zt (v := ?_) 7 rfl ?_ ?_
 rotate_left
 ·intro w hSw; (try dsimp only at hSw); go_simp; (try with_reducible rfl)
 (try simp only [Act.put, zq1, zq2, zq3, zq4, zq5, zq6])
 refine zt (v := ?_) 8 rfl ?_ ?_
 rotate_left
 ·intro w hSw; (try dsimp only at hSw); go_simp; (try with_reducible rfl)
 (try simp only [Act.put, zq1, zq2, zq3, zq4, zq5, zq6])
 refine zt (v := ?_) 9 rfl ?_ ?_
 rotate_left
 ·intro w hSw; (try dsimp only at hSw); go_simp; (try with_reducible rfl)
 (try simp only [Act.put, zq1, zq2, zq3, zq4, zq5, zq6])
 refine zt (v := ?_) 10 rfl ?_ ?_
 rotate_left
 ·intro w hSw; (try dsimp only at hSw); go_simp; (try with_reducible rfl)
 (try simp only [Act.put, zq1, zq2, zq3, zq4, zq5, zq6])
 refine zt (v := ?_) 11 rfl ?_ ?_
 rotate_left
 ·intro w hSw; (try dsimp only at hSw); go_simp; (try with_reducible rfl)
 (try simp only [Act.put, zq1, zq2, zq3, zq4, zq5, zq6])
 refine zt (v := ?_) 12 rfl ?_ ?_
 rotate_left
 ·intro w hSw; (try dsimp only at hSw); go_simp; (try with_reducible rfl)
 (try simp only [Act.put, zq1, zq2, zq3, zq4, zq5, zq6])
 refine wpAnyZ_ready (i := 13) (by kernel_rfl) rfl (fun K hK => ?_)
 go_simp
 refine (dwrite_st w5.drew w5.drew.heap.size (A := none) (l := []) (c := 0) (Lh (World.ownsRow_nil _ _ _ _)) (Nat.le_refl _) o hc HDW HTO (by simp only [List.length_nil]; omega) (by omega)).mono ?_
 rintro e w6 ⟨A6, c6, rfl, HO6, HB6, HN6⟩
 have HB6B : Hid (Below w5.heap.size w5 w6) := Lh ⟨HB6.out.os, HB6.out.tape, HB6.out.output, HB6.out.size, fun k hk => HB6.out.block k hk (fun e => (by cases e))⟩
 refine hK.out _ _ ((HFB.out _ HB6B.out)) (fun hHeld => ?_)
 clear hK K
 (try simp only [Act.put, zq1, zq2, zq3, zq4, zq5, zq6])
 refine zt (v := ?_) 14 rfl ?_ ?_
 rotate_left
 ·intro w hSw; (try dsimp only at hSw); go_simp; (try with_reducible rfl)
 (try simp only [Act.put, zq1, zq2, zq3, zq4, zq5, zq6])
 refine wpAnyZ_last (i := 15) rfl (by kernel_rfl) (by kernel_rfl) rfl (fun K hK => ?_)
 go_simp
 refine hK.out _ _ ?_
 clear hK K hHeld
 go_wp2_with fail
 go_ret2
 have ho : w6.ownsRow w5.heap.size 5 1 (.slice A6 (wrB o.L s0.held).length c6) (wrB o.L s0.held).length ((wrB o.L s0.held).map (Value.int .u8)) := HO6.out
 have hbd : BelD (fun k => k = db) W w6 := HBD.out.trans (BelD.of_below HB6B.out)
 refine ⟨A6, c6, ha, hc, by rw [HW2.out]; rfl, Lh ?_, Lh hbd, Lh fun V hV => ?_, Lh ?_, Lh (by rw [HW2.out]; exact Nat.le_trans (wrB_len o.L s0.held) (by rw [show o.L.length = o.l.length from List.length_map _]; exact hol))⟩
 ·rw [HW2.out]
  have e : stI (s0, true) = 1 := by unfold stI; rw [HRJ.out]; rfl
  refine ⟨?_, HKD.out.tc, HKD.out.ok, HKD.out.sok, fun V hV => HKD.out.dep V ((hbd.mono fun k (e : k = db) => (e ▸ HKD.out.mem : D k)).trans hV), HKD.out.mem, fun k hk => Nat.lt_of_lt_of_le (HKD.out.lt k hk) hbd.size⟩
  rw [e]
  exact HBX.out.keep (HB6B.out.block _ HBX.out.lt)
 ·rw [HW2.out]
  have h1 := wrB_len o.L s0.held
  have h2 : o.L.length = o.l.length := List.length_map _
  have h3 := HBD.out.size
  refine bytes_own ho (wrB_u8 _ _) (by omega) V fun k hk => ?_
  obtain ⟨q1, q2, -⟩ := own_ty ho hk
  exact hV.block k q2 (fun e => by have := HLT.out.2 k e; omega)
 ·rw [HW2.out]
  exact own_mono ho HBD.out.size
end
end
section
open Go.RowKit
theorem rc_end {Q : Ending → World → Prop} {a : Act} {Wx : World} {rb : Nat} {v u : Value} (hd : a.defers = []) (h2 : a.tmps.getD 2 undef = .pointer (some ⟨rb, 0, none⟩)) (h3 : a.tmps.getD 3 undef = v) (h4 : a.tmps.getD 4 undef = u) {old : Array Value} (hg : Wx.heap[rb]? = some (.cells old 81 (0, 0)))
  {C : Array Value} (hC : C.size = 263) (hq : Q (.returned (.tuple #[.agg C, v, u])) (Wx.setRow rb C)) : bodyPost Tryz.prog Tryz.f41 Q .ret a (Wx.setRow rb C) :=
 bodyPost_ret (v := .tuple #[.agg C, v, u]) (results_row3 rfl _ _ _ _ _ _ _ _ _ h2 h3 h4 (setRow_heap _ _ _ _ _ _ hg) Tryz.underlying81 rfl (by rw [hC]; exact info_refS)) hd hq
theorem rClose_st (D : Nat → Prop) (W : World) (cs : Array Value) (T : TabI) (s : DrvS) (ha : Option Addr) (hc : Nat) (HT : Hid (TabC cs T ∧ TabOk T.L ∧ Drv.Ok (heldL T.L) T.L.nodes.length s.1)) (HG0 : Hid (∀ V, Below W.heap.size W V → TabW T V)) (HH : Hid (Dep (fun k => ¬ D k) W (BytesAt ha s.1.held))) :
  Calls Tryz.prog 41 #[.agg (rdV cs s ha hc)] W (RetRW D cs (clS T.L s) W) := by
 have HG : Hid (∀ V, Below W.heap.size W V → TabW T V ∧ BytesAt ha s.1.held V) := Lh fun V hV => ⟨HG0.out V hV, HH.out.st V hV⟩
 have hs : cs.size = 259 := HT.out.1.size
 obtain ⟨z, hz⟩ : ∃ z, z = zeroR := ⟨_, rfl⟩
 have HZ : Hid ((Tryz.prog.info? 81).map (fun i => i.zero) = some (some (.agg z))) := Lh (by rw [hz]; exact info_refZ)
 have HZS : Hid (z.size = 263) := Lh (by rw [hz]; exact zeroR_size)
 clear hz
 obtain ⟨⟨s0, sc0⟩, hse⟩ : ∃ y, s = y := ⟨_, rfl⟩
 subst hse
 simp only at HT HG HH
 unfold rdV
 simp only
 obtain ⟨wa, hwa⟩ : ∃ y, W.alloc (.cells (rdC cs s0.node ha hc s0.held sc0 s0.rej) 81) = y := ⟨_, rfl⟩
 obtain ⟨wb, hwb⟩ : ∃ y, wa.alloc (.cells z 81) = y := ⟨_, rfl⟩
 have hsa : wa.heap.size = W.heap.size + 1 := by rw [← hwa]; simp
 have hsb : wb.heap.size = W.heap.size + 2 := by rw [← hwb]; simp [hsa]
 have HBA : Hid (Below W.heap.size W wa) := Lh (by rw [← hwa]; exact (Below.refl _ _).alloc (Nat.le_refl _) _)
 have HBB : Hid (Below W.heap.size W wb) := Lh (by rw [← hwb]; exact HBA.out.alloc (by omega) _)
 have HRB : Hid (RdB (W.heap.size + 1) z wb) := Lh (by rw [← hsa, ← hwb]; exact heap_alloc_new wa _)
 have HTB : Hid (RdB W.heap.size (rdC cs s0.node ha hc s0.held sc0 s0.rej) wb) := Lh (by
  have h1 : wa.heap[W.heap.size]? = some (.cells (rdC cs s0.node ha hc s0.held sc0 s0.rej) 81 (0, 0)) := by rw [← hwa]; exact heap_alloc_new W _
  rw [← hwb]
  exact (Below.heap_alloc _ _ _ (by omega)).trans h1)
 obtain ⟨C0, hC0⟩ : ∃ y, rdC cs s0.node ha hc s0.held sc0 s0.rej = y := ⟨_, rfl⟩
 have c262 := HTB.out.cRj hs
 have c261 := HTB.out.cCl hs
 have c259 := HTB.out.cNode hs
 rw [hC0] at hwa ⊢
 have HC0 := Lh hC0
 have HC0S : Hid (C0.size = 263 ∧ C0.all (·.oneCell') = true) := Lh (by rw [← hC0]; exact ⟨rdC_size hs, rdC_one HT.out.1⟩)
 have HI : Hid ((Tryz.prog.info? 81).map (·.size) = some C0.size) := Lh (by rw [HC0S.out.1]; exact info_refS)
 have HOL : Hid (z.size = C0.size) := Lh (by rw [HC0S.out.1, HZS.out])
 have HTB0 : Hid (RdB W.heap.size C0 wb) := Lh (by rw [← hC0]; exact HTB.out)
 have HSZ : Hid (wa.heap.size = W.heap.size + 1 ∧ wb.heap.size = W.heap.size + 2) := Lh ⟨hsa, hsb⟩
 clear hC0 hsb
 go_enter Tryz.func41, Tryz.ntmps41
 rcases hrj : s0.rej with _ | _
 case true =>
  rw [hrj] at c262
  have HE : Hid (clS T.L (s0, sc0) = ((s0, sc0), [], 7)) := Lh (by
   have h : errI (s0, sc0) = 7 := by unfold errI; simp [hrj]
   unfold clS; rw [if_pos (by rw [h]; decide), h])
  clear hrj
  go_wp2_with (first
   | (refine wpList_allocZ rfl 81 rfl z HZ.out ?_)
   | (refine wpList_load_row rfl 81 _ rfl W.heap.size rfl _ C0 _ _ HTB0.out Tryz.underlying81 rfl HI.out ?_)
   | (refine wpList_store_row rfl 81 _ _ rfl (W.heap.size + 1) C0 rfl rfl 81 z HRB.out HI.out HOL.out HC0S.out.2 ?_))
  refine rc_end (v := .slice none 0 0) (u := .int .i64 7) rfl rfl rfl rfl HRB.out HC0S.out.1 ⟨none, 0, ha, hc, ?_, Lh (setRow_below HBB.out (by omega) _), Lh ?_, Lh fun V hV => ?_⟩
  ·rw [HE.out]
   show _ = Ending.returned (.tuple #[.agg (rdC cs s0.node ha hc s0.held sc0 s0.rej), .slice none 0 0, .int .i64 7])
   rw [HC0.out]
  ·rw [HE.out]; exact World.ownsRow_nil _ _ _ _
  ·rw [HE.out]
   exact HH.out V fun k hk hl => by
    have q := HSZ.out
    rw [hV k hk (by simp [World.setRow]; omega), setRow_other _ _ _ _ (by omega)]
    exact HBB.out.block k hl
 rw [hrj] at c262
 have HRJ := Lh hrj
 clear hrj
 rcases hcl : sc0 with _ | _
 case true =>
  rw [hcl] at c261
  have HCL := Lh hcl
  have HE : Hid (clS T.L (s0, true) = ((s0, true), [], 8)) := Lh (by
   have h : errI (s0, true) = 8 := by unfold errI; simp [HRJ.out]
   unfold clS; rw [if_pos (by rw [h]; decide), h])
  clear hcl
  go_wp2_with (first
   | (refine wpList_allocZ rfl 81 rfl z HZ.out ?_)
   | (refine wpList_load_row rfl 81 _ rfl W.heap.size rfl _ C0 _ _ HTB0.out Tryz.underlying81 rfl HI.out ?_)
   | (refine wpList_store_row rfl 81 _ _ rfl (W.heap.size + 1) C0 rfl rfl 81 z HRB.out HI.out HOL.out HC0S.out.2 ?_))
  refine rc_end (v := .slice none 0 0) (u := .int .i64 8) rfl rfl rfl rfl HRB.out HC0S.out.1 ⟨none, 0, ha, hc, ?_, Lh (setRow_below HBB.out (by omega) _), Lh ?_, Lh fun V hV => ?_⟩
  ·rw [HE.out]
   show _ = Ending.returned (.tuple #[.agg (rdC cs s0.node ha hc s0.held true s0.rej), .slice none 0 0, .int .i64 8])
   have h := HC0.out
   rw [HCL.out] at h
   rw [h]
  ·rw [HE.out]; exact World.ownsRow_nil _ _ _ _
  ·rw [HE.out]
   exact HH.out V fun k hk hl => by
    have q := HSZ.out
    rw [hV k hk (by simp [World.setRow]; omega), setRow_other _ _ _ _ (by omega)]
    exact HBB.out.block k hl
 rw [hcl] at c261
 subst hcl
 have HW : Hid (clS T.L (s0, false) = if endL' T.L s0.node < 0 then ((Drv.rejd, false), [], 7) else ((s0, true), wrB (T.L.ends.getD (endL' T.L s0.node).toNat []) s0.held, 0)) := Lh (by
  have h : errI (s0, false) = 0 := by unfold errI; simp [HRJ.out]
  unfold clS; rw [if_neg (by rw [h]; decide)])
 have hnl : s0.node < T.ns.length := by have := HT.out.2.2.lt; rwa [nodesL_len] at this
 obtain ⟨nb, noff, n, hnA, hnx, hnw, m0, m1, m2⟩ := (HG.out wb HBB.out).1.nodes.at_ hnl
 have hLn : T.L.nodes[s0.node]? = some n.L := nodesL_at hnx
 have hend : endL' T.L s0.node = n.e := by unfold endL'; rw [hLn]; rfl
 have HNO := Lh (HT.out.2.1.nodes n.L (List.mem_of_getElem? hLn))
 have HEND := Lh hend
 have d256 := HTB.out.cell (rdC_lo HT.out.1.c1)
 rw [hnA] at d256
 have hnode : (s0.node : Int) < (T.ns.length : Int) := by omega
 clear hnA hnx hnw hLn hend
 go_upto_region 6 with (refine wpList_allocZ rfl 81 rfl z HZ.out ?_)
 (try rw [hwb])
 obtain ⟨w4, hw4⟩ : ∃ y, wb.alloc (.cells #[.int .i64 n.h, .slice n.na n.nx.length n.nc, .int .i64 n.e] 64) = y := ⟨_, rfl⟩
 rw [hw4]
 have hxx : w4.heap[wb.heap.size]? = some (.cells #[.int .i64 n.h, .slice n.na n.nx.length n.nc, .int .i64 n.e] 64 (0, 0)) := by rw [← hw4]; exact heap_alloc_new wb _
 have HB4 : Hid (Below wb.heap.size wb w4) := Lh (by rw [← hw4]; exact (Below.refl _ _).alloc (Nat.le_refl _) _)
 have y2 : w4.cell? ⟨wb.heap.size, 2, none⟩ = some (.int .i64 n.e) := by simp [World.cell?, hxx]
 have HXX := Lh hxx
 have HB4W : Hid (Below W.heap.size W w4) := Lh (HBB.out.trans (HB4.out.mono HBB.out.size))
 have HT4 : Hid (RdB W.heap.size (rdC cs s0.node ha hc s0.held false false) w4) := Lh (by
  have h := HTB.out.keep (HB4.out.block _ HTB.out.lt)
  rwa [HRJ.out] at h)
 have HR4 : Hid (RdB (W.heap.size + 1) z w4) := Lh (HRB.out.keep (HB4.out.block _ HRB.out.lt))
 clear hxx hw4 d256 m0 m1 m2 c262 c261 c259
 by_cases hf : n.e < 0
 ·have HW2 : Hid (clS T.L (s0, false) = ((Drv.rejd, false), [], 7)) := Lh (by rw [HW.out, HEND.out, if_pos hf])
  obtain ⟨CR, hCR⟩ : ∃ y, rdC cs 0 none 0 [] false true = y := ⟨_, rfl⟩
  have HCR := Lh hCR
  have HBD : Hid (Tryz.prog.built 81 [(0, .agg cs), (4, .bool true)] = some CR) := Lh (by rw [built_refR cs hs, hCR])
  have HCRS : Hid (CR.size = 263 ∧ CR.all (·.oneCell') = true) := Lh (by rw [← hCR]; exact ⟨rdC_size hs, rdC_one HT.out.1⟩)
  have HIR : Hid ((Tryz.prog.info? 81).map (·.size) = some CR.size) := Lh (by rw [HCRS.out.1]; exact info_refS)
  have HOLR : Hid (z.size = CR.size) := Lh (by rw [HCRS.out.1, HZS.out])
  have HIT : Hid ((Tryz.prog.info? 49).map (·.size) = some cs.size) := Lh (by rw [hs]; exact info_tabS)
  have HPT : Hid (∀ j v, cs[j]? = some v → w4.cell? ⟨W.heap.size, 0 + j, none⟩ = some v) := Lh fun j v h => by rw [Nat.zero_add]; exact HT4.out.cell (rdC_lo h)
  clear hCR
  go_wp2_with (first
   | (refine wpList_load_part rfl 49 _ rfl W.heap.size 0 rfl cs _ HPT.out Tryz.underlying49 rfl HIT.out ?_)
   | (refine wpList_buildD rfl 81 _ rfl [(0, .agg cs), (4, .bool true)] (by simp [go_sem]) CR HBD.out ?_)
   | (refine wpList_store_row rfl 81 _ _ rfl (W.heap.size + 1) CR rfl rfl 81 z HR4.out HIR.out HOLR.out HCRS.out.2 ?_))
  refine rc_end (v := .slice none 0 0) (u := .int .i64 7) rfl rfl rfl rfl HR4.out HCRS.out.1 ⟨none, 0, none, 0, ?_, Lh (setRow_below HB4W.out (by omega) _), Lh ?_, Lh fun V hV => ?_⟩
  ·rw [HW2.out]
   show _ = Ending.returned (.tuple #[.agg (rdC cs 0 none 0 [] false true), .slice none 0 0, .int .i64 7])
   rw [HCR.out]
  ·rw [HW2.out]; exact World.ownsRow_nil _ _ _ _
  ·rw [HW2.out]; exact BytesAt.nil_ _ _
 obtain ⟨fn, hfn⟩ : ∃ fn : Nat, n.e = (fn : Int) := Int.eq_ofNat_of_zero_le (by omega)
 have hfl : fn < T.es.length := by
  have h := HNO.out.1.2.2.2.2
  rw [show T.L.ends = T.es.map OutI.L from rfl, List.length_map, show n.L.fin = n.e from rfl] at h
  omega
 obtain ⟨w5, hw5⟩ : ∃ y, w4.setCell ⟨W.heap.size, 261, none⟩ (.bool true) = y := ⟨_, rfl⟩
 have HB5W : Hid (Below W.heap.size W w5) := Lh (by rw [← hw5]; exact setCell_below HB4W.out (Nat.le_refl _) _ _)
 have HT5 : Hid (RdB W.heap.size (rdC cs s0.node ha hc s0.held true false) w5) := Lh (by rw [← hw5]; exact HT4.out.setCl hs true)
 have hst5 : ∀ k, k ≠ W.heap.size → w5.heap[k]? = w4.heap[k]? := fun k hk => by rw [← hw5]; exact heap_setCell_other _ _ _ _ hk
 have hs5 : w5.heap.size = w4.heap.size := by rw [← hw5]; simp
 have HR5 : Hid (RdB (W.heap.size + 1) z w5) := Lh (HR4.out.keep (hst5 _ (by omega)))
 obtain ⟨eb, eoff, o, heA, heo, hew, ec⟩ := (HG.out w5 HB5W.out).1.ends.at_ hfl
 have hLe : T.L.ends[fn]? = some o.L := end_at heo
 have HW2 : Hid (clS T.L (s0, false) = ((s0, true), wrB o.L s0.held, 0)) := Lh (by
  rw [HW.out, HEND.out, if_neg hf, hfn, Int.toNat_natCast, List.getD_eq_getElem?_getD, hLe]; rfl)
 have HTO : Hid (∀ t ∈ o.l, NumsOk t.L) := Lh fun t ht => by
  obtain ⟨l, q1, q2⟩ := HNO.out.2.1 (by rw [show n.L.fin = n.e from rfl]; omega)
  rw [show n.L.fin = n.e from rfl, hfn, Int.toNat_natCast, hLe] at q1
  injection q1 with q1
  exact (q2 t.L (by rw [← q1]; exact List.mem_map.2 ⟨t, ht, rfl⟩)).1
 have hol : o.l.length ≤ 64 := by
  have h := HT.out.2.1.ends o.L (List.mem_of_getElem? hLe)
  rwa [show o.L = o.l.map TermI.L from rfl, List.length_map] at h
 have hh4 : s0.held.length ≤ 4 := drv_len HT.out.2.1 HT.out.2.2
 obtain ⟨C1, hC1⟩ : ∃ y, rdC cs s0.node ha hc s0.held true false = y := ⟨_, rfl⟩
 have HC1 := Lh hC1
 have HC1S : Hid (C1.size = 263 ∧ C1.all (·.oneCell') = true) := Lh (by rw [← hC1]; exact ⟨rdC_size hs, rdC_one HT.out.1⟩)
 have HI1 : Hid ((Tryz.prog.info? 81).map (·.size) = some C1.size) := Lh (by rw [HC1S.out.1]; exact info_refS)
 have HOL1 : Hid (z.size = C1.size) := Lh (by rw [HC1S.out.1, HZS.out])
 have e258 := HT5.out.cell (rdC_lo HT.out.1.c3)
 have e260 := HT5.out.cHeld hs
 rw [heA] at e258
 have hlt4 : wb.heap.size < w4.heap.size := (Array.getElem?_eq_some_iff.1 HXX.out).1
 have ey : w5.cell? ⟨wb.heap.size, 2, none⟩ = some (.int .i64 (fn : Int)) := by
  have h := (hst5 wb.heap.size (by have := HSZ.out; omega)).trans HXX.out
  rw [hfn] at h
  simp [World.cell?, h]
 have HFB : Hid (∀ V, Below w5.heap.size w5 V → Hid (RdB W.heap.size C1 V) ∧ V.cell? ⟨W.heap.size, 258, none⟩ = some (.slice (some ⟨eb, eoff, none⟩) T.es.length T.ec) ∧ V.cell? ⟨W.heap.size, 260, none⟩ = some (.slice ha s0.held.length hc) ∧ V.cell? ⟨eb, eoff + fn, none⟩ = some (.slice o.a o.l.length o.c) ∧ V.cell? ⟨wb.heap.size, 2, none⟩ = some (.int .i64 (fn : Int))) := Lh fun V hV =>
  ⟨Lh (by rw [← hC1]; exact HT5.out.keep (hV.block _ HT5.out.lt)), (hV.cell (lt_of_cell e258)).trans e258, (hV.cell (lt_of_cell e260)).trans e260, (hV.cell (lt_of_cell ec)).trans ec, (hV.cell (lt_of_cell ey)).trans ey⟩
 have hfi : (fn : Int) < (T.es.length : Int) := by omega
 have HGW : Hid (∀ V, Below w5.drew.heap.size w5.drew V → TermsAt o.a o.l V ∧ BytesAt ha s0.held V) := Lh fun V hV => by
  have hV2 : Below w5.heap.size w5 V := (Below.refl w5.heap.size w5).drew.trans hV
  have h2 := HG.out V (HB5W.out.trans (hV2.mono HB5W.out.size))
  exact ⟨h2.1.ends.it o (List.mem_of_getElem? heo), h2.2⟩
 have f1 := HT4.out.fz 261
 have p1 := HT4.out.cCl hs
 have HFN := Lh hfn
 clear heA heo hew ec hLe e258 e260 ey hfn hC1 hst5 hs5 hlt4
 go_upto_region 9 with fail
 (try rw [hw5])
 refine wp_region_Y 11 (by kernel_rfl) (fun V => Hid (RdB W.heap.size C1 V) ∧ V.cell? ⟨W.heap.size, 258, none⟩ = some (.slice (some ⟨eb, eoff, none⟩) T.es.length T.ec) ∧ V.cell? ⟨W.heap.size, 260, none⟩ = some (.slice ha s0.held.length hc) ∧ V.cell? ⟨eb, eoff + fn, none⟩ = some (.slice o.a o.l.length o.c) ∧ V.cell? ⟨wb.heap.size, 2, none⟩ = some (.int .i64 (fn : Int))) (fun _ => True) (HFB.out _ (Below.refl _ w5).drew) (fun hHeld => ?_)
 refine wpAnyY_take (i := 0) (v := .agg C1) [11, 12, 13] rfl (by kernel_rfl) (by kernel_rfl) (by kernel_rfl) (by kernel_rfl) (by kernel_rfl) (fun _ _ _ h => h) (Or.inl ⟨by first | kernel_rfl | rfl, ?_⟩) (fun _ _ => trivial) (by assumption) ?_
 ·intro w hSw
  exact exec_load_part 81 (.tmp 1) rfl W.heap.size 0 rfl C1 _ (fun j v h => by rw [Nat.zero_add]; exact hSw.1.out.cell h) Tryz.underlying81 rfl HI1.out
 (try simp only [Act.put, zq1, zq2, zq3, zq4, zq5, zq6])
 refine wpAnyY_take2 (i := 1) (v := ?_) rfl (by kernel_rfl) (by kernel_rfl) (by kernel_rfl) (by kernel_rfl) (fun _ _ _ h => h) (Or.inl ⟨by first | kernel_rfl | rfl, ?_⟩) (fun _ _ => trivial) (by assumption) ?_
 rotate_left
 ·intro w hSw; (try dsimp only at hSw); go_simp; (try with_reducible rfl)
 (try simp only [Act.put, zq1, zq2, zq3, zq4, zq5, zq6])
 refine wpAnyY_take2 (i := 2) (v := ?_) rfl (by kernel_rfl) (by kernel_rfl) (by kernel_rfl) (by kernel_rfl) (fun _ _ _ h => h) (Or.inl ⟨by first | kernel_rfl | rfl, ?_⟩) (fun _ _ => trivial) (by assumption) ?_
 rotate_left
 ·intro w hSw; (try dsimp only at hSw); go_simp; (try with_reducible rfl)
 (try simp only [Act.put, zq1, zq2, zq3, zq4, zq5, zq6])
 refine wpAnyY_take (i := 3) (v := ?_) [6, 7, 10, 11, 12, 13] rfl (by kernel_rfl) (by kernel_rfl) (by kernel_rfl) (by kernel_rfl) (by kernel_rfl) (fun _ _ _ h => h) (Or.inl ⟨by first | kernel_rfl | rfl, ?_⟩) (fun _ _ => trivial) (by assumption) ?_
 rotate_left
 ·intro w hSw; (try dsimp only at hSw); go_simp; (try with_reducible rfl)
 (try simp only [Act.put, zq1, zq2, zq3, zq4, zq5, zq6])
 refine wpAnyY_take2 (i := 4) (v := ?_) rfl (by kernel_rfl) (by kernel_rfl) (by kernel_rfl) (by kernel_rfl) (fun _ _ _ h => h) (Or.inl ⟨by first | kernel_rfl | rfl, ?_⟩) (fun _ _ => trivial) (by assumption) ?_
 rotate_left
 ·intro w hSw; (try dsimp only at hSw); go_simp; (try with_reducible rfl)
 (try simp only [Act.put, zq1, zq2, zq3, zq4, zq5, zq6])
 refine wpAnyY_take (i := 5) (v := ?_) [6, 7, 10, 11, 12, 13] rfl (by kernel_rfl) (by kernel_rfl) (by kernel_rfl) (by kernel_rfl) (by kernel_rfl) (fun _ _ _ h => h) (Or.inl ⟨by first | kernel_rfl | rfl, ?_⟩) (fun _ _ => trivial) (by assumption) ?_
 rotate_left
 ·intro w hSw; (try dsimp only at hSw); go_simp; (try with_reducible rfl)
 (try simp only [Act.put, zq1, zq2, zq3, zq4, zq5, zq6])
 refine wpAnyY_take2 (i := 6) (v := ?_) rfl (by kernel_rfl) (by kernel_rfl) (by kernel_rfl) (by kernel_rfl) (fun _ _ _ h => h) (Or.inl ⟨by first | kernel_rfl | rfl, ?_⟩) (fun _ _ => trivial) (by assumption) ?_
 rotate_left
 ·intro w hSw; (try dsimp only at hSw); go_simp; (try with_reducible rfl)
 (try simp only [Act.put, zq1, zq2, zq3, zq4, zq5, zq6])
 refine wpAnyY_take (i := 7) (v := ?_) [10, 11, 12, 13] rfl (by kernel_rfl) (by kernel_rfl) (by kernel_rfl) (by kernel_rfl) (by kernel_rfl) (fun _ _ _ h => h) (Or.inl ⟨by first | kernel_rfl | rfl, ?_⟩) (fun _ _ => trivial) (by assumption) ?_
 rotate_left
 ·intro w hSw; (try dsimp only at hSw); go_simp; (try with_reducible rfl)
 (try simp only [Act.put, zq1, zq2, zq3, zq4, zq5, zq6])
 refine wpAnyY_take2 (i := 8) (v := ?_) rfl (by kernel_rfl) (by kernel_rfl) (by kernel_rfl) (by kernel_rfl) (fun _ _ _ h => h) (Or.inl ⟨by first | kernel_rfl | rfl, ?_⟩) (fun _ _ => trivial) (by assumption) ?_
 rotate_left
 ·intro w hSw; (try dsimp only at hSw); go_simp; (try with_reducible rfl)
 (try simp only [Act.put, zq1, zq2, zq3, zq4, zq5, zq6])
 refine wpAnyY_take (i := 9) (v := ?_) [10, 11, 12, 13] rfl (by kernel_rfl) (by kernel_rfl) (by kernel_rfl) (by kernel_rfl) (by kernel_rfl) (fun _ _ _ h => h) (Or.inl ⟨by first | kernel_rfl | rfl, ?_⟩) (fun _ _ => trivial) (by assumption) ?_
 rotate_left
 ·intro w hSw; (try dsimp only at hSw); go_simp; (try with_reducible rfl)
 (try simp only [Act.put, zq1, zq2, zq3, zq4, zq5, zq6])
 refine wpAnyY_ready (i := 10) (by kernel_rfl) rfl (fun _ _ => trivial) (fun K hK => ?_)
 go_simp
 refine (rwrite_st w5.drew o hc HGW HTO (by omega) (by omega)).mono ?_
 rintro e w6 ⟨A6, c6, rfl, HO6, HB6⟩
 have HB6X : Hid (Below w5.heap.size w5 w6) := Lh ((Below.refl w5.heap.size w5).drew.trans HB6.out)
 have HR6 : Hid (RdB (W.heap.size + 1) z w6) := Lh (HR5.out.keep (HB6X.out.block _ HR5.out.lt))
 refine hK.out _ _ ((HFB.out _ HB6X.out)) (fun hHeld => ?_)
 clear hK K
 (try simp only [Act.put, zq1, zq2, zq3, zq4, zq5, zq6])
 refine wpAnyY_late (i := 11) (by kernel_rfl) (by kernel_rfl) rfl (fun K hK => ?_)
 (try rw [if_pos (by kernel_rfl)])
 refine wp_store_row 81 _ _ rfl (W.heap.size + 1) C1 rfl rfl 81 z HR6.out HI1.out HOL1.out HC1S.out.2 ?_
 refine hK.out _ _ (trivial) ?_
 clear hK K
 (try simp only [Act.put, zq1, zq2, zq3, zq4, zq5, zq6])
 refine wpAnyY_late (i := 12) (by kernel_rfl) (by kernel_rfl) rfl (fun K hK => ?_)
 go_simp
 refine hK.out _ _ (trivial) ?_
 clear hK K
 (try simp only [Act.put, zq1, zq2, zq3, zq4, zq5, zq6])
 refine wpAnyY_last (i := 13) (by kernel_rfl) (by kernel_rfl) (by kernel_rfl) rfl (fun K hK => ?_)
 go_simp
 refine hK.out _ _ trivial ?_
 clear hK K hHeld
 go_wp2_with fail
 refine rc_end (v := .slice A6 (wrB o.L s0.held).length c6) (u := .int .i64 0) rfl rfl rfl rfl HR6.out HC1S.out.1 ⟨A6, c6, ha, hc, ?_, Lh (setRow_below (HB5W.out.trans (HB6X.out.mono HB5W.out.size)) (by omega) _), Lh ?_, Lh fun V hV => ?_⟩
 ·rw [HW2.out]
  show _ = Ending.returned (.tuple #[.agg (rdC cs s0.node ha hc s0.held true s0.rej), .slice A6 (wrB o.L s0.held).length c6, .int .i64 0])
  rw [HRJ.out, HC1.out]
 ·rw [HW2.out]
  have q := HSZ.out
  have q5 := HB5W.out.size
  have q4 := HR5.out.lt
  exact own_keep (own_mono HO6.out q5) fun k hk => setRow_other _ _ _ _ (by have h := (own_ty HO6.out hk).1; have h2 : w5.heap.size ≤ k := h; omega)
 ·rw [HW2.out]
  have hb := HB5W.out.trans (HB6X.out.mono HB5W.out.size)
  exact HH.out V fun k hk hl => by
   have q := hb.size
   rw [hV k hk (by simp [World.setRow]; omega), setRow_other _ _ _ _ (by omega)]
   exact hb.block k hl
end
section
open Go.RowKit
section
variable {w0 w : World} {F : World → Prop}
theorem rterms_st {A : Option Addr} {l : List TermI} (hK : Hid (St w0 w F)) (hp : ∀ W, F W → TermsAt A l W) (c : Nat) (n : Int) (v : Bool) (hv : Hid (pB (TermsOk n (l.map TermI.L)) = v)) :
  Calls Tryz.prog 89 #[.slice A l.length c, .int .i64 n] w (RetV w0 (.bool v) F) := by
 have hln := (hp _ hK.out.now).ln
 have HP := Lh hp
 clear hp
 go_enter Tryz.func89, Tryz.ntmps89
 go_wp2_with fail
 go_loopw [5] (fun i wr => ∃ k : Nat, k ≤ l.length ∧ i = .int .i64 k ∧ Hid (TermsTo n l k) ∧ Hid (St w0 wr F)) (fun i _ => l.length - (intOf i).toNat)
 case atStart => exact ⟨0, Nat.zero_le _, rfl, Lh (fun i hi => by simp at hi), hK⟩
 case round =>
 obtain ⟨k, hk, rfl, HR, HK⟩ := hrel
 by_cases hlt : k < l.length
 ·obtain ⟨pb, off, i, rfl, hx, hw, hd0, hd1, hd2, hd3, hd4, hd5⟩ := (HP.out _ HK.out.now).at_ hlt
  have HX := Lh hx
  have HKi := Lh (HK.out.add (Below.refl _ _) (G := PartsAt i.pa i.ps) (fun W hW => hw.2.below hW))
  clear hx hw
  by_cases a2 : TermOk n i.L
  ·have H2 := Lh (pB_true a2)
   have HR2 := Lh (HR.out.next HX.out a2)
   clear a2
   go_wp2_with fail
   refine (rtRight_st HKi (fun _ h => h.1) i.b i.d i.t i.u i.s i.pc n true H2).mono ?_
   rintro e w1 ⟨rfl, HK1⟩
   go_wp2_with fail
   exact ⟨⟨k + 1, by omega, by go_num, HR2, Lh (HK1.out.weaken fun _ h => h.2)⟩, by simp [intOf]; omega⟩
  ·have H2 := Lh (pB_false a2)
   obtain rfl := pB_f hv (fun h => a2 (h _ (List.mem_map.2 ⟨i, List.mem_of_getElem? HX.out, rfl⟩)))
   clear a2
   go_wp2_with fail
   refine (rtRight_st HKi (fun _ h => h.1) i.b i.d i.t i.u i.s i.pc n false H2).mono ?_
   rintro e w1 ⟨rfl, HK1⟩
   go_wp2_with fail
   go_ret
   exact ⟨rfl, Lh (HK1.out.weaken fun _ h => h.2)⟩
 ·obtain rfl : k = l.length := by omega
  have hd : decide (l.length < l.length) = false := by simp
  obtain rfl := pB_t hv HR.out.all
  go_wp2_with fail
  go_ret
  exact ⟨rfl, HK⟩
theorem rnext_st (hK : Hid (St w0 w F)) (cs : Array Value) (T : TabI) (hC : TabC cs T) (ht : ∀ W, F W → TabW T W) (hd0 : Int) (na : Option Addr) (nn nc : Nat) (e x : Int) (v : Bool) (hv : Hid (pB (NextOk T.L hd0 x) = v))
  (hl1 : T.ns.length ≤ 4096) (hl2 : T.acts.length ≤ 4096) (b1 : 0 ≤ hd0) (b2 : hd0 ≤ 4) (hx64 : I64 x) :
  Calls Tryz.prog 90 #[.agg cs, .agg #[.int .i64 hd0, .slice na nn nc, .int .i64 e], .int .i64 x] w (RetV w0 (.bool v) F) := by
 have HT := Lh ht
 have h257 := hC.c2
 have h256 := hC.c1
 have HK1 := St.tbox hK cs
 have HK := St.box HK1 [.int .i64 hd0, .slice na nn nc, .int .i64 e] 64
 have hz : (w.alloc (.cells cs 49)).heap.size = w.heap.size + 1 := by simp
 rw [hz] at HK
 clear ht hz HK1
 have HRES : Hid (∀ W, Hid (St w0 W (fun W => BoxC (w.heap.size + 1) [.int .i64 hd0, .slice na nn nc, .int .i64 e] W ∧ TabBox w.heap.size cs W ∧ F W)) → Hid (St w0 W F)) := Lh fun W h => Lh (h.out.weaken fun _ h => h.2.2)
 by_cases c1 : x = -1
 ·subst c1
  obtain rfl := pB_t hv (.inl rfl)
  go_enter Tryz.func90, Tryz.ntmps90
  go_wp2_with fail
  go_ret
  exact ⟨rfl, HRES.out _ HK⟩
 have c1a : (x == -1) = false := by rw [beq_eq_false_iff_ne]; exact c1
 by_cases c2 : hd0 = 4
 ·obtain rfl := pB_f hv (fun H => by
   rcases H with H | ⟨H, _⟩
   ·exact c1 H
   ·exact H c2)
  have c2a : (hd0 == 4) = true := by rw [beq_iff_eq]; exact c2
  clear c1 c2
  go_enter Tryz.func90, Tryz.ntmps90
  go_wp2_with fail
  go_ret
  exact ⟨rfl, HRES.out _ HK⟩
 have c2a : (hd0 == 4) = false := by rw [beq_eq_false_iff_ne]; exact c2
 have hs : IntKind.i64.wrap (hd0 + 1) = hd0 + 1 := IntWalk.i64_in _ (by omega)
 obtain ⟨q0, q1, q2⟩ := HK.out.now.1.c3
 have p6 := HK.out.now.2.1.cell1 h256
 by_cases c5 : 0 ≤ x
 ·obtain ⟨j, rfl⟩ := Int.eq_ofNat_of_zero_le c5
  by_cases hjl : j < T.ns.length
  ·obtain ⟨qb, qo, q, hB, hq, hqw, r0, r1, r2⟩ := (HT.out _ HK.out.now.2.2).nodes.at_ hjl
   rw [hB] at p6
   have HQ := Lh hq
   have hji : (j : Int) < (T.ns.length : Int) := by omega
   have hg : decide ((j : Int) < (T.ns.length : Int)) = true := decide_eq_true hji
   have hji2 : decide (j < T.ns.length) = true := decide_eq_true hjl
   have hlq := lt_of_cell r0
   have g6 := h256
   rw [hB] at g6
   clear hq hqw c1 r1 r2 c1a h256 q1 q2
   by_cases c6 : q.h = hd0 + 1
   ·obtain rfl := pB_t hv (.inr ⟨c2, .inl ⟨c5, _, nodesL_at HQ.out, c6⟩⟩)
    have c6a : (q.h == hd0 + 1) = true := by rw [beq_iff_eq]; exact c6
    clear c6 c2
    go_enter Tryz.func90, Tryz.ntmps90
    go_wp2_with fail
    go_quiet (fail)
    go_wp2_with fail
    go_ret
    exact ⟨rfl, HRES.out _ (St.hdrewN HK nq)⟩
   ·obtain rfl := pB_f hv (fun H => c6 (next_at (nodesL_at HQ.out) H))
    have c6a : (q.h == hd0 + 1) = false := by rw [beq_eq_false_iff_ne]; exact c6
    clear c6 c2
    go_enter Tryz.func90, Tryz.ntmps90
    go_wp2_with fail
    go_quiet (fail)
    go_wp2_with fail
    go_ret
    exact ⟨rfl, HRES.out _ (St.hdrewN HK nq)⟩
  ·obtain rfl := pB_f hv (fun H => by
    rcases H with H | ⟨_, ⟨_, n, hn, _⟩ | ⟨H, _⟩⟩
    ·exact c1 H
    ·have := (List.getElem?_eq_some_iff.1 hn).1
     rw [nodesL_len, Int.toNat_natCast] at this; omega
    ·omega)
   have hg : decide ((j : Int) < (T.ns.length : Int)) = false := decide_eq_false (by omega)
   have hg2 : decide (j < T.ns.length) = false := decide_eq_false hjl
   clear c1 c1a c2 hjl
   go_enter Tryz.func90, Tryz.ntmps90
   go_wp2_with fail
   go_quiet (fail)
   go_wp2_with fail
   go_ret
   exact ⟨rfl, HRES.out _ (St.hdrewN HK nq)⟩
 have hxm : x ≤ -2 := by omega
 have hxlo := hx64.1
 go_enter Tryz.func90, Tryz.ntmps90
 go_wp2_with fail
 go_loopw [7] (fun i wr => ∃ k : Nat, k ≤ T.acts.length ∧ i = .int .i64 k ∧ Hid (∀ j : Nat, j < k → x ≠ -2 - (j : Int)) ∧ Hid (St w0 wr (fun W => BoxC (w.heap.size + 1) [.int .i64 hd0, .slice na nn nc, .int .i64 e] W ∧ TabBox w.heap.size cs W ∧ F W))) (fun i _ => T.acts.length - (intOf i).toNat)
 case atStart => exact ⟨0, Nat.zero_le _, rfl, Lh (fun j hj => by omega), HK⟩
 case round =>
 clear HK q0 q1 q2 p6
 obtain ⟨k, hk, rfl, HR, HK⟩ := hrel
 obtain ⟨q0, q1, q2⟩ := HK.out.now.1.c3
 have p7 := HK.out.now.2.1.cell1 h257
 by_cases hlt : k < T.acts.length
 ·by_cases c3 : x = -2 - (k : Int)
  ·obtain ⟨ab, ao, a, hB, ha, haw, r0, r1, r2⟩ := (HT.out _ HK.out.now.2.2).acts.at_ hlt
   have HA := Lh ha
   have HJ : Hid (-2 - x = (k : Int)) := Lh (by omega)
   have hji : (k : Int) < (T.acts.length : Int) := by omega
   have hj0 : (0 : Int) ≤ (k : Int) := by omega
   have g7 := h257
   rw [hB] at p7 g7
   have HKo := Lh (HK.out.add (Below.refl _ _) (G := fun W => W.cell? ⟨ab, ao + k * 3, none⟩ = some (.int .i64 a.e) ∧ W.cell? ⟨ab, ao + k * 3 + 2, none⟩ = some (.slice a.o.a a.o.l.length a.o.c) ∧ OutW a.o W)
    (fun W hW => ⟨(hW.cell (p := ⟨ab, ao + k * 3, none⟩) (lt_of_cell r0)).trans r0, (hW.cell (p := ⟨ab, ao + k * 3 + 2, none⟩) (lt_of_cell r2)).trans r2, OutW.stays _ _ _ haw.2 hW⟩))
   have c3a : (x == -2 - (k : Int)) = true := by rw [beq_iff_eq]; exact c3
   clear ha haw c1 c1a hB c5 c3
   by_cases c7 : a.e ≤ hd0 + 1
   ·have hg7 : decide (a.e ≤ hd0 + 1) = true := decide_eq_true c7
    have HVV : Hid (pB (TermsOk (hd0 + 1) (a.o.l.map TermI.L)) = v) := Lh (by
     rw [← hv.out]
     refine pB_congr ⟨fun H => .inr ⟨c2, .inr ⟨hxm, a.L, by rw [HJ.out, Int.toNat_natCast]; exact actsL_at HA.out, c7, H⟩⟩, fun H => (next_act HJ.out (actsL_at HA.out) H).2⟩)
    clear c7 c2
    go_wp2_with fail
    have HK := St.hdrewN HKo 1
    go_region_held3 (fun W => W.cell? ⟨w.heap.size + 1, 0, none⟩ = some (.int .i64 hd0) ∧ W.cell? ⟨w.heap.size, 257, none⟩ = some (.slice (some ⟨ab, ao, none⟩) T.acts.length T.ac) ∧ W.cell? ⟨ab, ao + k * 3, none⟩ = some (.int .i64 a.e) ∧ W.cell? ⟨ab, ao + k * 3 + 2, none⟩ = some (.slice a.o.a a.o.l.length a.o.c))
     (first | exact ⟨HK.out.now.2.1 0 _ rfl, HK.out.now.2.2.1.cell1 g7, HK.out.now.1.1, HK.out.now.1.2.1⟩ | go_keep)
     ((go_at_call 89; refine (rterms_st HK (fun _ h => h.1.2.2) a.o.c (hd0 + 1) v HVV).mono ?_; rintro e5 w5 ⟨rfl, HK⟩))
    go_wp2_with fail
    go_ret
    exact ⟨rfl, HRES.out _ (Lh (HK.out.weaken fun _ h => h.2))⟩
   ·have hg7 : decide (a.e ≤ hd0 + 1) = false := decide_eq_false c7
    obtain rfl := pB_f hv (fun H => c7 (next_act HJ.out (actsL_at HA.out) H).1)
    clear c7 c2
    go_wp2_with fail
    go_quiet (fail)
    go_wp2_with fail
    go_ret
    exact ⟨rfl, HRES.out _ (St.hdrewN HK nq)⟩
  ·have c3a : (x == -2 - (k : Int)) = false := by rw [beq_eq_false_iff_ne]; exact c3
   have HN : Hid (∀ j : Nat, j < k + 1 → x ≠ -2 - (j : Int)) := Lh fun j hj => by
    by_cases e : j = k
    ·subst e; exact c3
    ·exact HR.out j (by omega)
   clear c3 c1 c1a c2 c5
   go_wp2_with fail
   exact ⟨⟨k + 1, by omega, by go_num, HN, HK⟩, by simp [intOf]; omega⟩
 ·obtain rfl : k = T.acts.length := by omega
  have hd : decide (T.acts.length < T.acts.length) = false := by simp
  obtain rfl := pB_f hv (fun H => by
   rcases H with H | ⟨_, ⟨H, _⟩ | ⟨h1, n, hn, _⟩⟩
   ·exact c1 H
   ·omega
   ·have := (List.getElem?_eq_some_iff.1 hn).1
    rw [actsL_len] at this
    exact HR.out (-2 - x).toNat this (by omega))
  clear c1 c1a c2 c5
  go_wp2_with fail
  go_ret
  exact ⟨rfl, HRES.out _ HK⟩
end
end
end Go.Proofs.YtlmkokeapbleoaaGreat
