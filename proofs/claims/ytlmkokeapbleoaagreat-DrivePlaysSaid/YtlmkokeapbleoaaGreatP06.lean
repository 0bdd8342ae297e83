/- Contracts and plain laws that the proof leans on. Condition: as each theorem says. -/
import Derived.Test.YtlmkokeapbleoaaGreatP05
import Derived.Deep.RegionHeld3
import Derived.Deep.DeepCutAuto
import Derived.Lib.MinMax
import Derived.Deep.QuietTactic
import Derived.Test.YtlmkokeapbleoaaGreatP04
import Derived.RangeFuncNested
import Derived.RangeFuncBound
import Derived.RangeFuncCalls
import Derived.RangeFuncLeaves
import Derived.Shelf.Abstract
import Derived.Shelf.RegionOpen
import Derived.OwnWalkIn
import Derived.TacticsInMore
import Derived.LoopNIn
import Derived.LoopIn
import Derived.Deep.RegionHeld
import Derived.Maps.OwnIn
set_option maxRecDepth 100000
set_option maxHeartbeats 64000000
set_option linter.unusedVariables false
set_option linter.unusedSimpArgs false
namespace Go.Proofs.YtlmkokeapbleoaaGreat
open Go.RowKit
section
def TabBox (b : Nat) (cs : Array Value) (W : World) : Prop := W.heap[b]? = some (.cells cs 49 (0, 0))
theorem TabBox.below {b : Nat} {cs : Array Value} {W W' : World} (h : TabBox b cs W) (hb : Below W.heap.size W W') : TabBox b cs W' :=
 (hb.block b (by unfold TabBox at h; exact (Array.getElem?_eq_some_iff.1 h).1)).trans h
theorem TabBox.cell {b : Nat} {cs : Array Value} {W : World} (h : TabBox b cs W) (i : Nat) : W.cell? ⟨b, i, none⟩ = cs[i]? := by
 unfold TabBox at h; simp [World.cell?, h]
theorem TabBox.cell1 {b : Nat} {cs : Array Value} {W : World} (h : TabBox b cs W) {i : Nat} {v : Value} (hv : cs[i]? = some v) : W.cell? ⟨b, i, none⟩ = some v := (h.cell i).trans hv
theorem St.tbox {w0 w : World} {F : World → Prop} (hK : Hid (St w0 w F)) (cs : Array Value) : Hid (St w0 (w.alloc (.cells cs 49)) (fun W => TabBox w.heap.size cs W ∧ F W)) :=
 Lh (hK.out.add ((Below.refl _ _).alloc (Nat.le_refl _) _) fun W hW => TabBox.below (heap_alloc_new w _) hW)
theorem nodesL_at {T : TabI} {j : Nat} {q : NodeI} (h : T.ns[j]? = some q) : T.L.nodes[j]? = some q.L := by
 show (T.ns.map NodeI.L)[j]? = _
 rw [List.getElem?_map, h]; rfl
theorem actsL_at {T : TabI} {j : Nat} {q : ActI} (h : T.acts[j]? = some q) : T.L.acts[j]? = some q.L := by
 show (T.acts.map ActI.L)[j]? = _
 rw [List.getElem?_map, h]; rfl
theorem endsL_at {T : TabI} {j : Nat} {q : OutI} (h : T.es[j]? = some q) : T.L.ends[j]? = some q.L := by
 show (T.es.map OutI.L)[j]? = _
 rw [List.getElem?_map, h]; rfl
theorem nodesL_len (T : TabI) : T.L.nodes.length = T.ns.length := List.length_map _
theorem actsL_len (T : TabI) : T.L.acts.length = T.acts.length := List.length_map _
theorem endsL_len (T : TabI) : T.L.ends.length = T.es.length := List.length_map _
def NextsTo (T : TabL) (h : Int) (l : List Int) (k : Nat) : Prop := ∀ x ∈ l.take k, NextOk T h x
theorem NextsTo.all {T : TabL} {h : Int} {l : List Int} (H : NextsTo T h l l.length) : ∀ x ∈ l, NextOk T h x := fun x hx => H x (by rwa [List.take_length])
theorem NextsTo.next {T : TabL} {h : Int} {l : List Int} {k : Nat} {x : Int} (H : NextsTo T h l k) (hx : l[k]? = some x) (hi : NextOk T h x) : NextsTo T h l (k + 1) := fun q hq => by
 rw [take_snoc? hx] at hq
 rcases List.mem_append.1 hq with hq | hq
 ·exact H q hq
 ·simp at hq; subst hq; exact hi
def EndOk (T : TabL) (h e : Int) : Prop := 0 ≤ e → ∃ l, T.ends[e.toNat]? = some l ∧ TermsOk h l
theorem next_at {T : TabL} {h : Int} {j : Nat} {q : NodeL} (hq : T.nodes[j]? = some q) (hx : NextOk T h (j : Int)) : q.held = h + 1 := by
 rcases hx with hx | ⟨_, ⟨_, n, hn, h1⟩ | ⟨h1, _⟩⟩
 ·omega
 ·rw [Int.toNat_natCast, hq] at hn; injection hn with hn; subst hn; exact h1
 ·omega
theorem next_act {T : TabL} {h x : Int} {j : Nat} {a : ActL} (hj : -2 - x = (j : Int)) (ha : T.acts[j]? = some a) (hx : NextOk T h x) : a.eat ≤ h + 1 ∧ TermsOk (h + 1) a.out := by
 rcases hx with hx | ⟨_, ⟨h1, _⟩ | ⟨_, n, hn, h1⟩⟩
 ·omega
 ·omega
 ·rw [hj, Int.toNat_natCast, ha] at hn; injection hn with hn; subst hn; exact h1
section
variable {w0 w : World} {F : World → Prop}
theorem node_st (hK : Hid (St w0 w F)) (cs : Array Value) (T : TabI) (hC : TabC cs T) (ht : ∀ W, F W → TabW T W) (n : NodeI) (hn : ∀ W, F W → NodeW n W) (k : Nat) (v : Bool) (hv : Hid (pB (NodeOk T.L k n.L) = v))
  (hl1 : T.ns.length ≤ 4096) (hl2 : T.acts.length ≤ 4096) (hl3 : T.es.length ≤ 4096) (hl4 : k ≤ 256) :
  Calls Tryz.prog 88 #[.agg cs, .agg #[.int .i64 n.h, .slice n.na n.nx.length n.nc, .int .i64 n.e], .int .i64 k] w (RetV w0 (.bool v) F) := by
 have HT := Lh ht
 have HN := Lh hn
 have h258 := hC.c3
 have h257 := hC.c2
 have h256 := hC.c1
 have HK1 := St.tbox hK cs
 have HK := St.box HK1 [.int .i64 n.h, .slice n.na n.nx.length n.nc, .int .i64 n.e] 64
 have hz : (w.alloc (.cells cs 49)).heap.size = w.heap.size + 1 := by simp
 rw [hz] at HK
 clear ht hn hz HK1
 obtain ⟨hd0, na, nc, nx, e⟩ := n
 simp only at HK ⊢
 have hres : ∀ W, Hid (St w0 W (fun W => BoxC (w.heap.size + 1) [.int .i64 hd0, .slice na nx.length nc, .int .i64 e] W ∧ TabBox w.heap.size cs W ∧ F W)) → Hid (St w0 W F) := fun W h => Lh (h.out.weaken fun _ h => h.2.2)
 have HRES := Lh hres
 clear hres
 by_cases b1 : 0 ≤ hd0
 case neg =>
  obtain rfl := pB_f hv (fun H => b1 H.1.1)
  go_enter Tryz.func88, Tryz.ntmps88
  go_wp2_with fail
  go_ret
  exact ⟨rfl, HRES.out _ HK⟩
 by_cases b2 : hd0 ≤ 4
 case neg =>
  obtain rfl := pB_f hv (fun H => b2 H.1.2.1)
  go_enter Tryz.func88, Tryz.ntmps88
  go_wp2_with fail
  go_ret
  exact ⟨rfl, HRES.out _ HK⟩
 by_cases b3 : (nx.length : Int) = k
 case neg =>
  obtain rfl := pB_f hv (fun H => b3 (by have := H.1.2.2.1; exact_mod_cast this))
  go_enter Tryz.func88, Tryz.ntmps88
  go_wp2_with fail
  go_ret
  exact ⟨rfl, HRES.out _ HK⟩
 obtain rfl : nx.length = k := by omega
 by_cases b4 : -1 ≤ e
 case neg =>
  obtain rfl := pB_f hv (fun H => b4 H.1.2.2.2.1)
  clear b3
  go_enter Tryz.func88, Tryz.ntmps88
  go_wp2_with fail
  go_ret
  exact ⟨rfl, HRES.out _ HK⟩
 by_cases b5 : e < (T.es.length : Int)
 case neg =>
  obtain rfl := pB_f hv (fun H => b5 (by have := H.1.2.2.2.2; rw [endsL_len] at this; exact this))
  clear b3
  go_enter Tryz.func88, Tryz.ntmps88
  go_wp2_with fail
  go_ret
  exact ⟨rfl, HRES.out _ HK⟩
 have HHD : Hid (NodeHead T.L nx.length ⟨hd0, nx, e⟩) := Lh ⟨b1, b2, rfl, b4, by rw [endsL_len]; exact b5⟩
 clear b3
 go_enter Tryz.func88, Tryz.ntmps88
 go_wp2_with fail
 have q3 := HK.out.now.2.1.cell1 h258
 obtain ⟨q0, q1, q2⟩ := HK.out.now.1.c3
 go_cut [52] (fun s wr => ∃ b : Bool, s = .bool b ∧ Hid ((b = true ∧ v = false) ∨ (b = false ∧ EndOk T.L hd0 e)) ∧ Hid (St w0 wr (fun W => BoxC (w.heap.size + 1) [.int .i64 hd0, .slice na nx.length nc, .int .i64 e] W ∧ TabBox w.heap.size cs W ∧ F W)))
 case first =>
  by_cases b6 : 0 ≤ e
  ·obtain ⟨j, rfl⟩ := Int.eq_ofNat_of_zero_le b6
   have b5' : j < T.es.length := by omega
   obtain ⟨eb, eo, o, hA, ho, how, hec⟩ := (HT.out _ HK.out.now.2.2).ends.at_ b5'
   have g258 := h258
   rw [hA] at g258 q3
   have HO := Lh ho
   have HK := Lh (HK.out.add (Below.refl _ _) (G := fun W => W.cell? ⟨eb, eo + j, none⟩ = some (.slice o.a o.l.length o.c) ∧ OutW o W) (fun W hW => ⟨(hW.cell (p := ⟨eb, eo + j, none⟩) (lt_of_cell hec)).trans hec, OutW.stays _ _ _ how hW⟩))
   have HK := St.hdrewN HK 1
   clear ho how
   obtain ⟨z, hz, hzv⟩ : ∃ z : Bool, pB (TermsOk hd0 (o.l.map TermI.L)) = z ∧ Hid ((!z) = true ∧ v = false ∨ (!z) = false ∧ EndOk T.L hd0 (j : Int)) := by
    by_cases a2 : TermsOk hd0 (o.l.map TermI.L)
    ·exact ⟨true, pB_true a2, Lh (.inr ⟨rfl, fun _ => ⟨_, endsL_at HO.out, a2⟩⟩)⟩
    ·refine ⟨false, pB_false a2, Lh (.inl ⟨rfl, pB_f hv fun H => a2 ?_⟩)⟩
     obtain ⟨l, h1, h2⟩ := H.2.1 b6
     have h3 := endsL_at HO.out
     have h1' : T.L.ends[j]? = some l := h1
     rw [h1'] at h3; injection h3 with h3; subst h3; exact h2
   have H2 := Lh hz
   clear hz b5
   go_region_held3 (fun W => W.cell? ⟨w.heap.size + 1, 2, none⟩ = some (.int .i64 j) ∧ W.cell? ⟨w.heap.size + 1, 0, none⟩ = some (.int .i64 hd0) ∧ W.cell? ⟨w.heap.size, 258, none⟩ = some (.slice (some ⟨eb, eo, none⟩) T.es.length T.ec) ∧ W.cell? ⟨eb, eo + j, none⟩ = some (.slice o.a o.l.length o.c))
    (first | exact ⟨HK.out.now.2.1 2 _ rfl, HK.out.now.2.1 0 _ rfl, HK.out.now.2.2.1.cell1 g258, HK.out.now.1.1⟩ | go_keep)
    ((go_at_call 132; refine (right_st HK (fun _ h => h.1.2) o.c hd0 z H2).mono ?_; rintro e5 w5 ⟨rfl, HK⟩))
   go_wp2_with fail
   go_meet
   exact ⟨!z, rfl, hzv, Lh (HK.out.weaken fun _ h => h.2)⟩
  ·have hg : decide (0 ≤ e) = false := decide_eq_false b6
   have HEN : Hid (EndOk T.L hd0 e) := Lh (fun h => absurd h b6)
   go_quiet (fail)
   go_wp2_with fail
   go_meet
   exact ⟨false, rfl, Lh (.inr ⟨rfl, HEN.out⟩), St.hdrewN HK nq⟩
 case rest =>
 clear HK q0 q1 q2 q3
 obtain ⟨b, rfl, hb, HK⟩ := hcut
 rcases hb.out with ⟨rfl, rfl⟩ | ⟨rfl, hen⟩
 ·clear hb
  go_wp2_with fail
  go_ret
  exact ⟨rfl, HRES.out _ HK⟩
 have HEN := Lh hen
 obtain ⟨q0, q1, q2⟩ := HK.out.now.1.c3
 clear hb hen q0 q2 b4 b5
 go_wp2_with fail
 go_loopw [56] (fun i wr => ∃ m : Nat, m ≤ nx.length ∧ i = .int .i64 m ∧ Hid (NextsTo T.L hd0 nx m) ∧ Hid (St w0 wr (fun W => BoxC (w.heap.size + 1) [.int .i64 hd0, .slice na nx.length nc, .int .i64 e] W ∧ TabBox w.heap.size cs W ∧ F W))) (fun i _ => nx.length - (intOf i).toNat)
 case atStart => exact ⟨0, Nat.zero_le _, rfl, Lh (fun x hx => by simp at hx), HK⟩
 case round =>
 clear HK q1
 obtain ⟨m, hm, rfl, HR, HK⟩ := hrel
 by_cases hlt : m < nx.length
 ·obtain ⟨q0, q1, q2⟩ := HK.out.now.1.c3
  have p6 := HK.out.now.2.1.cell1 h256
  have p7 := HK.out.now.2.1.cell1 h257
  obtain ⟨nb, no, x, hA, hx, hix, hxc⟩ := (HN.out _ HK.out.now.2.2).2.at_ hlt
  simp only at hA
  subst hA
  have HX := Lh hx
  have HNO : Hid (¬ NextOk T.L hd0 x → v = false) := Lh fun H => pB_f hv (fun H2 => H (H2.2.2 x (List.mem_of_getElem? HX.out)))
  have HYE : Hid (NextOk T.L hd0 x → NextsTo T.L hd0 nx (m + 1)) := Lh fun H => HR.out.next HX.out H
  clear hx hix hm HX HR
  by_cases c1 : x = -1
  ·subst c1
   have hg : decide ((0 : Int) ≤ -1) = false := by decide
   have HYE2 := Lh (HYE.out (.inl rfl))
   go_wp2_with fail
   go_quiet (fail)
   go_wp2_with fail
   exact ⟨⟨m + 1, by omega, by go_num, HYE2, St.hdrewN HK nq⟩, by simp [intOf]; omega⟩
  have c1a : (x == -1) = false := by rw [beq_eq_false_iff_ne]; exact c1
  have c1b : (x != -1) = true := by rw [bne_iff_ne]; exact c1
  by_cases c3 : (T.ns.length : Int) ≤ x
  ·obtain rfl := HNO.out (fun H => by
    rcases H with H | ⟨_, ⟨_, n, hn, _⟩ | ⟨H, _⟩⟩
    ·exact c1 H
    ·have := (List.getElem?_eq_some_iff.1 hn).1
     rw [nodesL_len] at this; omega
    ·omega)
   clear c1 c1a c1b
   go_wp2_with fail
   go_ret
   exact ⟨rfl, HRES.out _ HK⟩
  by_cases c4 : x < -1 - (T.acts.length : Int)
  ·obtain rfl := HNO.out (fun H => by
    rcases H with H | ⟨_, ⟨_, n, hn, _⟩ | ⟨_, n, hn, _⟩⟩
    ·exact c1 H
    ·omega
    ·have := (List.getElem?_eq_some_iff.1 hn).1
     rw [actsL_len] at this; omega)
   clear c1 c1a c1b
   go_wp2_with fail
   go_ret
   exact ⟨rfl, HRES.out _ HK⟩
  by_cases c2 : hd0 = 4
  ·obtain rfl := HNO.out (fun H => by
    rcases H with H | ⟨H, _⟩
    ·exact c1 H
    ·exact H c2)
   have c2a : (hd0 == 4) = true := by rw [beq_iff_eq]; exact c2
   clear c1 c2
   go_wp2_with fail
   go_ret
   exact ⟨rfl, HRES.out _ HK⟩
  have c2a : (hd0 == 4) = false := by rw [beq_eq_false_iff_ne]; exact c2
  have hs : IntKind.i64.wrap (hd0 + 1) = hd0 + 1 := IntWalk.i64_in _ (by omega)
  by_cases c5 : 0 ≤ x
  ·obtain ⟨j, rfl⟩ := Int.eq_ofNat_of_zero_le c5
   have hjl : j < T.ns.length := by omega
   obtain ⟨qb, qo, q, hB, hq, hqw, r0, r1, r2⟩ := (HT.out _ HK.out.now.2.2).nodes.at_ hjl
   have p6' := p6
   rw [hB] at p6'
   have HQ := Lh hq
   have hg : decide ((0 : Int) ≤ (j : Int)) = true := decide_eq_true c5
   have hji : (j : Int) < (T.ns.length : Int) := by omega
   clear p6 hq hqw c1 r1 r2 c1a
   by_cases c6 : q.h = hd0 + 1
   ·have HYE2 := Lh (HYE.out (.inr ⟨c2, .inl ⟨c5, _, nodesL_at HQ.out, c6⟩⟩))
    have c6a : (q.h != hd0 + 1) = false := by rw [bne_eq_false_iff_eq]; exact c6
    clear c6 c2 c3 hjl
    go_wp2_with fail
    go_quiet (fail)
    go_wp2_with fail
    exact ⟨⟨m + 1, by omega, by go_num, HYE2, St.hdrewN HK nq⟩, by simp [intOf]; omega⟩
   ·obtain rfl := HNO.out (fun H => c6 (next_at (nodesL_at HQ.out) H))
    have c6a : (q.h != hd0 + 1) = true := by rw [bne_iff_ne]; exact c6
    clear c6 c2 c3 hjl
    go_wp2_with fail
    go_quiet (fail)
    go_wp2_with fail
    go_ret
    exact ⟨rfl, HRES.out _ (St.hdrewN HK nq)⟩
  ·obtain ⟨j, hj⟩ := Int.eq_ofNat_of_zero_le (show 0 ≤ -2 - x by omega)
   have hjl : j < T.acts.length := by omega
   obtain ⟨ab, ao, a, hB, ha, haw, r0, r1, r2⟩ := (HT.out _ HK.out.now.2.2).acts.at_ hjl
   have p7' := p7
   rw [hB] at p7'
   have HA := Lh ha
   have HJ := Lh hj
   have hg : decide ((0 : Int) ≤ x) = false := decide_eq_false c5
   have hx2 : x < -1 := by omega
   have hji : (j : Int) < (T.acts.length : Int) := by omega
   have hj0 : (0 : Int) ≤ (j : Int) := by omega
   clear p7 ha c1 c1a c5
   have HKo := Lh (HK.out.add (Below.refl _ _) (G := OutW a.o) (fun W hW => OutW.stays _ _ _ haw.2 hW))
   clear haw
   go_wp2_with fail
   go_quiet (fail)
   have HKd := St.hdrewN HKo nq
   generalize hW2 : wr.drewN nq = W2 at HKd ⊢
   have e0 : ∀ p, W2.cell? p = wr.cell? p := fun p => by rw [← hW2]; rfl
   rw [← e0] at q0 q1 p7' r0 r1 r2
   have l0 := lt_of_cell q0
   have l1 : w.heap.size < W2.heap.size := by omega
   clear e0 hW2 q2 p6
   have HK := St.box HKd [.int .i64 a.e, .int .i64 a.d, .slice a.o.a a.o.l.length a.o.c] 59
   by_cases c7 : a.e ≤ hd0 + 1
   ·by_cases a2 : TermsOk (hd0 + 1) (a.o.l.map TermI.L)
    ·have H2 := Lh (pB_true a2)
     have HYE2 := Lh (HYE.out (.inr ⟨c2, .inr ⟨by omega, a.L, by rw [HJ.out, Int.toNat_natCast]; exact actsL_at HA.out, c7, a2⟩⟩))
     clear a2 c2
     go_wp2_with fail
     refine (right_st HK (fun _ h => h.2.1) a.o.c (hd0 + 1) true H2).mono ?_
     rintro e5 w5 ⟨rfl, HK⟩
     go_wp2_with fail
     exact ⟨⟨m + 1, by omega, by go_num, HYE2, Lh (HK.out.weaken fun _ h => h.2.2)⟩, by simp [intOf]; omega⟩
    ·have H2 := Lh (pB_false a2)
     obtain rfl := HNO.out (fun H => a2 (next_act HJ.out (actsL_at HA.out) H).2)
     clear a2 c2
     go_wp2_with fail
     refine (right_st HK (fun _ h => h.2.1) a.o.c (hd0 + 1) false H2).mono ?_
     rintro e5 w5 ⟨rfl, HK⟩
     go_wp2_with fail
     go_ret
     exact ⟨rfl, HRES.out _ (Lh (HK.out.weaken fun _ h => h.2.2))⟩
   ·obtain rfl := HNO.out (fun H => c7 (next_act HJ.out (actsL_at HA.out) H).1)
    clear c2
    go_wp2_with fail
    go_ret
    exact ⟨rfl, HRES.out _ (Lh (HK.out.weaken fun _ h => h.2.2))⟩
 ·obtain rfl : m = nx.length := by omega
  have hd : decide (nx.length < nx.length) = false := by simp
  obtain rfl := pB_t hv ⟨HHD.out, HEN.out, HR.out.all⟩
  go_wp2_with fail
  go_ret
  exact ⟨rfl, HRES.out _ HK⟩
end
end
section
def NodesTo (T : TabL) (k : Nat) (l : List NodeI) (m : Nat) : Prop := ∀ i ∈ l.take m, NodeOk T k i.L
theorem NodesTo.all {T : TabL} {k : Nat} {l : List NodeI} (h : NodesTo T k l l.length) : ∀ n ∈ l.map NodeI.L, NodeOk T k n := fun t ht => by
 obtain ⟨i, hi, rfl⟩ := List.mem_map.1 ht
 exact h i (by rwa [List.take_length])
theorem NodesTo.next {T : TabL} {k : Nat} {l : List NodeI} {m : Nat} {i : NodeI} (h : NodesTo T k l m) (hx : l[m]? = some i) (hi : NodeOk T k i.L) : NodesTo T k l (m + 1) := fun q hq => by
 rw [take_snoc? hx] at hq
 rcases List.mem_append.1 hq with hq | hq
 ·exact h q hq
 ·simp at hq; subst hq; exact hi
theorem NodeW.below {n : NodeI} {w w' : World} (h : NodeW n w) (hb : Below w.heap.size w w') : NodeW n w' := NodeW.stays _ _ _ h hb
def NodesOk (T : TabL) (k : Nat) : Prop := ∀ n ∈ T.nodes, NodeOk T k n
section
variable {w0 w : World} {F : World → Prop}
theorem check1_st (hK : Hid (St w0 w F)) (cs : Array Value) (T : TabI) (hC : TabC cs T) (ht : ∀ W, F W → TabW T W) (n : NodeI) (hn : ∀ W, F W → NodeW n W) (tb kb : Nat) (k : Nat)
  (htb : ∀ W, F W → TabBox tb cs W) (hkb : ∀ W, F W → BoxC kb [.int .i64 (k : Int)] W) (v : Bool) (hv : Hid (pB (NodeOk T.L k n.L) = v))
  (hl1 : T.ns.length ≤ 4096) (hl2 : T.acts.length ≤ 4096) (hl3 : T.es.length ≤ 4096) (hl4 : k ≤ 256) :
  Calls Tryz.prog 87 #[.agg #[.int .i64 n.h, .slice n.na n.nx.length n.nc, .int .i64 n.e], .pointer (some ⟨tb, 0, none⟩), .pointer (some ⟨kb, 0, none⟩)] w (RetV w0 (.bool (!v)) F) := by
 have HK := St.box hK [.int .i64 n.h, .slice n.na n.nx.length n.nc, .int .i64 n.e] 64
 have HN := Lh hn
 have HT := Lh ht
 have hc := hkb _ HK.out.now.2 0 _ rfl
 have hh := htb _ HK.out.now.2
 have hin : (Tryz.prog.info? 49).map (·.size) = some cs.size := by rw [hC.size]; kernel_rfl
 have HH := Lh hh
 have HI := Lh hin
 clear hn ht hkb htb hh hin
 go_enter Tryz.func87, Tryz.ntmps87
 go_wp2_with (refine wpList_load_row rfl 49 _ rfl tb rfl _ cs _ _ HH.out Tryz.underlying49 rfl HI.out ?_)
 refine (node_st HK cs T hC (fun _ h => HT.out _ h.2) n (fun _ h => HN.out _ h.2) k v hv hl1 hl2 hl3 hl4).mono ?_
 rintro e w1 ⟨rfl, HK1⟩
 cases v
 all_goals
  go_wp2_with fail
  go_ret
  exact ⟨rfl, Lh (HK1.out.weaken fun _ h => h.2)⟩
theorem indexN_st (hK : Hid (St w0 w F)) (cs : Array Value) (T : TabI) (hC : TabC cs T) (ht : ∀ W, F W → TabW T W) (tb kb : Nat) (k : Nat)
  (htb : ∀ W, F W → TabBox tb cs W) (hkb : ∀ W, F W → BoxC kb [.int .i64 (k : Int)] W) (v : Bool) (hv : Hid (pB (NodesOk T.L k) = v))
  (hl1 : T.ns.length ≤ 4096) (hl2 : T.acts.length ≤ 4096) (hl3 : T.es.length ≤ 4096) (hl4 : k ≤ 256) :
  Calls Tryz.prog 131 #[.slice T.na T.ns.length T.nc, .func (.func 87) #[] #[.pointer (some ⟨tb, 0, none⟩), .pointer (some ⟨kb, 0, none⟩)]] w (RetIx w0 v F) := by
 have HT := Lh ht
 have HTB := Lh htb
 have HKB := Lh hkb
 clear ht htb hkb
 go_enter Tryz.func131, Tryz.ntmps131
 go_wp2_with fail
 go_loopw [8] (fun i wr => ∃ m : Nat, m ≤ T.ns.length ∧ i = .int .i64 m ∧ Hid (NodesTo T.L k T.ns m) ∧ Hid (St w0 wr F)) (fun i _ => T.ns.length - (intOf i).toNat)
 case atStart => exact ⟨0, Nat.zero_le _, rfl, Lh (fun i hi => by simp at hi), hK⟩
 case round =>
 obtain ⟨m, hm, rfl, HR, HK⟩ := hrel
 by_cases hlt : m < T.ns.length
 ·obtain ⟨pb, off, n, hA, hx, hw, hd0, hd1, hd2⟩ := (HT.out _ HK.out.now).nodes.at_ hlt
  have HX := Lh hx
  have HKi := Lh (HK.out.add (Below.refl _ _) (G := NodeW n) (fun W hW => hw.below hW))
  rw [hA]
  clear hx hw
  by_cases a2 : NodeOk T.L k n.L
  ·have H2 := Lh (pB_true a2)
   have HR2 := Lh (HR.out.next HX.out a2)
   clear a2
   go_wp2_with fail
   refine (check1_st HKi cs T hC (fun _ h => HT.out _ h.2) n (fun _ h => h.1) tb kb k (fun _ h => HTB.out _ h.2) (fun _ h => HKB.out _ h.2) true H2 hl1 hl2 hl3 hl4).mono ?_
   rintro e w1 ⟨rfl, HK1⟩
   go_wp2_with fail
   exact ⟨⟨m + 1, by omega, by go_num, HR2, Lh (HK1.out.weaken fun _ h => h.2)⟩, by simp [intOf]; omega⟩
  ·have H2 := Lh (pB_false a2)
   obtain rfl := pB_f hv (fun h => a2 (h _ (List.mem_map.2 ⟨n, List.mem_of_getElem? HX.out, rfl⟩)))
   clear a2
   go_wp2_with fail
   refine (check1_st HKi cs T hC (fun _ h => HT.out _ h.2) n (fun _ h => h.1) tb kb k (fun _ h => HTB.out _ h.2) (fun _ h => HKB.out _ h.2) false H2 hl1 hl2 hl3 hl4).mono ?_
   rintro e w1 ⟨rfl, HK1⟩
   go_wp2_with fail
   go_ret
   exact ⟨m, rfl, .inr ⟨rfl, by omega⟩, Lh (HK1.out.weaken fun _ h => h.2)⟩
 ·obtain rfl : m = T.ns.length := by omega
  have hd : decide (T.ns.length < T.ns.length) = false := by simp
  obtain rfl := pB_t hv HR.out.all
  go_wp2_with fail
  go_ret
  exact ⟨-1, rfl, .inl ⟨rfl, rfl⟩, HK⟩
theorem containsN_st (hK : Hid (St w0 w F)) (cs : Array Value) (T : TabI) (hC : TabC cs T) (ht : ∀ W, F W → TabW T W) (tb kb : Nat) (k : Nat)
  (htb : ∀ W, F W → TabBox tb cs W) (hkb : ∀ W, F W → BoxC kb [.int .i64 (k : Int)] W) (v : Bool) (hv : Hid (pB (NodesOk T.L k) = v))
  (hl1 : T.ns.length ≤ 4096) (hl2 : T.acts.length ≤ 4096) (hl3 : T.es.length ≤ 4096) (hl4 : k ≤ 256) :
  Calls Tryz.prog 86 #[.slice T.na T.ns.length T.nc, .func (.func 87) #[] #[.pointer (some ⟨tb, 0, none⟩), .pointer (some ⟨kb, 0, none⟩)]] w (RetV w0 (.bool (!v)) F) := by
 have HT := Lh ht
 have HTB := Lh htb
 have HKB := Lh hkb
 clear ht htb hkb
 go_enter Tryz.func86, Tryz.ntmps86
 go_wp2_with fail
 refine (indexN_st hK cs T hC HT.out tb kb k HTB.out HKB.out v hv hl1 hl2 hl3 hl4).mono ?_
 rintro e w1 ⟨r, rfl, hr, HK1⟩
 rcases hr with ⟨rfl, rfl⟩ | ⟨rfl, hr⟩
 all_goals
  go_wp2_with fail
  go_ret
  exact ⟨rfl, HK1⟩
def maxL (l : List Int) : Int := l.foldl max 0
theorem maxL_snoc (l : List Int) (x : Int) : maxL (l ++ [x]) = max (maxL l) x := by unfold maxL; rw [List.foldl_append]; rfl
theorem maxL_bd {l : List Int} (h : U8s l) : 0 ≤ maxL l ∧ maxL l < 256 := by
 have : ∀ (l : List Int) (a : Int), U8s l → 0 ≤ a ∧ a < 256 → 0 ≤ l.foldl max a ∧ l.foldl max a < 256 := by
  intro l
  induction l with
  | nil => intro a _ ha; exact ha
  | cons x l ih => intro a hl ha; have := hl x (by simp); exact ih _ (fun y hy => hl y (by simp [hy])) (by omega)
 exact this l 0 h (by omega)
theorem maxL_lt (l : List Int) (k : Int) (hk : 0 < k) : maxL l < k ↔ ∀ c ∈ l, c < k := by
 have : ∀ (l : List Int) (a : Int), l.foldl max a < k ↔ a < k ∧ ∀ c ∈ l, c < k := by
  intro l
  induction l with
  | nil => intro a; simp
  | cons x l ih =>
   intro a
   rw [List.foldl_cons, ih]
   simp only [List.mem_cons, forall_eq_or_imp]
   constructor
   ·rintro ⟨h1, h2⟩; exact ⟨by omega, by omega, h2⟩
   ·rintro ⟨h1, h2, h3⟩; exact ⟨by omega, h3⟩
 unfold maxL
 rw [this]
 exact ⟨fun h => h.2, fun h => ⟨hk, h⟩⟩
theorem maxU8_any (tb : Nat) (l : List Int) (hu : U8s l) (hl : l.length = 256) (w : World) (hc : ∀ (i : Nat) (x : Int), l[i]? = some x → w.cell? ⟨tb, i, none⟩ = some (.int .u8 x)) :
  Calls Tryz.prog 85 #[.slice (some ⟨tb, 0, none⟩) 256 256] w fun e w' => e = .returned (.int .u8 (maxL l)) ∧ w = w' := by
 have HC := Lh hc
 have HU := Lh hu
 have HL := Lh hl
 obtain ⟨x0, hx0⟩ : ∃ x, l[0]? = some x := ⟨_, List.getElem?_eq_getElem (by omega)⟩
 have h0 := hc 0 _ hx0
 have HX0 := Lh hx0
 clear hc hu hl hx0
 go_enter Tryz.func85, Tryz.ntmps85
 go_wp2_with fail
 go_loop [3, 4] (fun mv iv => ∃ (k : Nat) (m : Int), 1 ≤ k ∧ k ≤ 256 ∧ iv = .int .i64 k ∧ mv = .int .u8 m ∧ Hid (m = maxL (l.take k))) (fun _ iv => 256 - (intOf iv).toNat)
 case atStart => exact ⟨1, x0, Nat.le_refl _, by omega, rfl, rfl, Lh (by
  rw [take_snoc? HX0.out, maxL_snoc]
  have := HU.out x0 (List.mem_of_getElem? HX0.out)
  simp only [List.take_zero, maxL, List.foldl_nil]; omega)⟩
 case round =>
 clear h0
 obtain ⟨k, m, hk1, hk, rfl, rfl, HM⟩ := hrel
 by_cases hlt : k < 256
 ·obtain ⟨x, hx⟩ : ∃ x, l[k]? = some x := ⟨_, List.getElem?_eq_getElem (by rw [HL.out]; exact hlt)⟩
  have hcx := HC.out k _ hx
  have HN : Hid (max m x = maxL (l.take (k + 1))) := Lh (by rw [take_snoc? hx, maxL_snoc, HM.out])
  clear hx
  go_wp2_with fail
  go_round
  case rel => exact ⟨k + 1, max m x, by omega, by omega, by go_num, rfl, HN⟩
  case measure => simp [intOf]; omega
 ·obtain rfl : k = 256 := by omega
  have HE : Hid (m = maxL l) := Lh (by rw [HM.out, ← HL.out, List.take_length])
  go_wp2_with fail
  go_ret
  exact ⟨congrArg (fun u => Ending.returned (.int .u8 u)) HE.out, rfl⟩
end
end
section
def ActsTo (T : TabL) (l : List ActI) (m : Nat) : Prop := ∀ i ∈ l.take m, ActOk T i.L
theorem ActsTo.all {T : TabL} {l : List ActI} (h : ActsTo T l l.length) : ∀ n ∈ l.map ActI.L, ActOk T n := fun t ht => by
 obtain ⟨i, hi, rfl⟩ := List.mem_map.1 ht
 exact h i (by rwa [List.take_length])
theorem ActsTo.next {T : TabL} {l : List ActI} {m : Nat} {i : ActI} (h : ActsTo T l m) (hx : l[m]? = some i) (hi : ActOk T i.L) : ActsTo T l (m + 1) := fun q hq => by
 rw [take_snoc? hx] at hq
 rcases List.mem_append.1 hq with hq | hq
 ·exact h q hq
 ·simp at hq; subst hq; exact hi
def EndsTo (l : List OutI) (m : Nat) : Prop := ∀ i ∈ l.take m, i.l.length ≤ 64
theorem EndsTo.all {l : List OutI} (h : EndsTo l l.length) : ∀ n ∈ l.map OutI.L, n.length ≤ 64 := fun t ht => by
 obtain ⟨i, hi, rfl⟩ := List.mem_map.1 ht
 have := h i (by rwa [List.take_length])
 simpa [OutI.L] using this
theorem EndsTo.next {l : List OutI} {m : Nat} {i : OutI} (h : EndsTo l m) (hx : l[m]? = some i) (hi : i.l.length ≤ 64) : EndsTo l (m + 1) := fun q hq => by
 rw [take_snoc? hx] at hq
 rcases List.mem_append.1 hq with hq | hq
 ·exact h q hq
 ·simp at hq; subst hq; exact hi
theorem outL_len (o : OutI) : o.L.length = o.l.length := List.length_map _
def HeadK (T : TabL) (K : Nat) : Prop := 1 ≤ K ∧ K ≤ 256 ∧ ∀ c ∈ T.cls, c < K
section
variable {w0 w : World} {F : World → Prop}
theorem tCheck_st (hK : Hid (St w0 w F)) (cs : Array Value) (T : TabI) (hC : TabC cs T) (ht : ∀ W, F W → TabW T W) (v : Bool) (hv : Hid (pB (TabOk T.L) = v)) :
  Calls Tryz.prog 33 #[.agg cs] w (RetV w0 (.bool v) F) := by
 have HT := Lh ht
 have h258 := hC.c3
 have h257 := hC.c2
 have h256 := hC.c1
 have HK := St.tbox hK cs
 have HRES : Hid (∀ W (G : World → Prop), Hid (St w0 W (fun W => G W ∧ F W)) → Hid (St w0 W F)) := Lh fun W G h => Lh (h.out.weaken fun _ h => h.2)
 have HNO : Hid (¬ TabOk T.L → v = false) := Lh fun H => pB_f hv H
 clear ht
 have hln1 := (HT.out _ HK.out.now.2).nodes.ln
 have hln2 := (HT.out _ HK.out.now.2).acts.ln
 have hln3 := (HT.out _ HK.out.now.2).ends.ln
 by_cases a1 : T.ns.length = 0
 ·obtain rfl := HNO.out (fun H => by
   obtain ⟨n, hn, _⟩ := H.head.2.2.2
   have := (List.getElem?_eq_some_iff.1 hn).1
   rw [nodesL_len] at this; omega)
  have a1' : (T.ns.length : Int) < 1 := by omega
  clear a1
  go_enter Tryz.func33, Tryz.ntmps33
  go_wp2_with fail
  go_ret
  exact ⟨rfl, HRES.out _ _ HK⟩
 by_cases a2 : ¬ T.ns.length ≤ 4096
 ·obtain rfl := HNO.out (fun H => a2 (by have := H.head.1; rwa [nodesL_len] at this))
  have a2' : (4096 : Int) < T.ns.length := by omega
  clear a1 a2
  go_enter Tryz.func33, Tryz.ntmps33
  go_wp2_with fail
  go_ret
  exact ⟨rfl, HRES.out _ _ HK⟩
 by_cases a3 : ¬ T.acts.length ≤ 4096
 ·obtain rfl := HNO.out (fun H => a3 (by have := H.head.2.1; rwa [actsL_len] at this))
  have a3' : (4096 : Int) < T.acts.length := by omega
  clear a1 a2 a3
  go_enter Tryz.func33, Tryz.ntmps33
  go_wp2_with fail
  all_goals (go_ret; exact ⟨rfl, HRES.out _ _ HK⟩)
 by_cases a4 : ¬ T.es.length ≤ 4096
 ·obtain rfl := HNO.out (fun H => a4 (by have := H.head.2.2.1; rwa [endsL_len] at this))
  have a4' : (4096 : Int) < T.es.length := by omega
  clear a1 a2 a3 a4
  go_enter Tryz.func33, Tryz.ntmps33
  go_wp2_with fail
  all_goals (go_ret; exact ⟨rfl, HRES.out _ _ HK⟩)
 have hl1 : T.ns.length ≤ 4096 := by omega
 have hl2 : T.acts.length ≤ 4096 := by omega
 have hl3 : T.es.length ≤ 4096 := by omega
 have hl0 : 0 < T.ns.length := by omega
 clear a1 a2 a3 a4 hln1 hln2 hln3
 obtain ⟨nb, no, n0, hA, hn0, hn0w, r0, r1, r2⟩ := (HT.out _ HK.out.now.2).nodes.at_ hl0
 have g256 := h256
 rw [hA] at g256
 have hln0 := hn0w.2.ln
 rw [Nat.zero_mul, Nat.add_zero] at r0 r1 r2
 have HN0 := Lh hn0
 have HR1 : Hid (∀ W, F W → W.cell? ⟨nb, no + 1, none⟩ = some (.slice n0.na n0.nx.length n0.nc)) := Lh fun W hW => by
  obtain ⟨nb', no', n0', hA', hn0', _, _, r1', _⟩ := (HT.out _ hW).nodes.at_ hl0
  rw [hA] at hA'; injection hA' with hA'; injection hA' with e1 e2; subst e1; subst e2
  rw [hn0] at hn0'; injection hn0' with hn0'; subst hn0'
  rw [Nat.zero_mul, Nat.add_zero] at r1'; exact r1'
 clear hn0 hn0w
 have hlz : nb < w.heap.size := by
  have hx := (HT.out _ hK.out.now).nodes.at_ hl0
  obtain ⟨nb', no', n0', hA', _, _, r0', _⟩ := hx
  rw [hA] at hA'; injection hA' with hA'; injection hA' with e1 e2; subst e1
  exact lt_of_cell r0'
 by_cases a5 : ¬ n0.h = 0
 ·obtain rfl := HNO.out (fun H => a5 (by
   obtain ⟨n, hn, h1, _⟩ := H.head.2.2.2
   rw [nodesL_at HN0.out] at hn; injection hn with hn; subst hn; exact h1))
  have a5' : (n0.h != 0) = true := by rw [bne_iff_ne]; exact a5
  clear a5
  go_enter Tryz.func33, Tryz.ntmps33
  go_wp2_with fail
  go_ret
  exact ⟨rfl, HRES.out _ _ HK⟩
 have a5 := Classical.not_not.1 a5
 have a5' : (n0.h != 0) = false := by rw [bne_eq_false_iff_eq]; exact a5
 have HA5 := Lh a5
 have HW : Hid (widthL T.L = n0.nx.length) := Lh (widthL_at (nodesL_at HN0.out))
 have hw0 : (w.alloc (.cells cs 49)).heap.size = w.heap.size + 1 := by simp
 have HKk := St.box HK [.int .i64 (n0.nx.length : Int)] 3
 rw [hw0] at HKk
 clear a5 hw0
 obtain ⟨K, hKn⟩ : ∃ K, n0.nx.length = K := ⟨_, rfl⟩
 rw [hKn] at HW HKk r1 HR1
 have HKN := Lh hKn
 obtain ⟨M, hM⟩ : ∃ M, maxL T.cls = M := ⟨_, rfl⟩
 have hMb := maxL_bd hC.u8
 rw [hM] at hMb
 have HM := Lh hM
 have HQ : Hid (∀ n, Calls Tryz.prog 85 #[.slice (some ⟨w.heap.size, 0, none⟩) 256 256] (((w.alloc (.cells cs 49)).alloc (.cells #[.int .i64 (K : Int)] 3)).drewN n) fun e w'' => e = .returned (.int .u8 M) ∧ ∃ m, w'' = ((w.alloc (.cells cs 49)).alloc (.cells #[.int .i64 (K : Int)] 3)).drewN m) := Lh fun n => by
  have h := maxU8_any w.heap.size T.cls hC.u8 hC.ln (((w.alloc (.cells cs 49)).alloc (.cells #[.int .i64 (K : Int)] 3)).drewN n) (fun i x hx => HKk.out.now.2.1.cell1 (hC.cl i x hx))
  rw [hM] at h
  exact h.mono fun e w'' ⟨h1, h2⟩ => ⟨h1, n, h2.symm⟩
 have HMK : Hid (1 ≤ K → (M < (K : Int) ↔ ∀ c ∈ T.L.cls, c < (K : Int))) := Lh fun h => by rw [← HM.out]; exact maxL_lt T.cls K (by omega)
 clear hM hKn
 obtain ⟨hM0, hM1⟩ := hMb
 have hKb : K ≤ 9223372036854775807 := by rw [← HKN.out]; exact hln0
 clear hln0
 have r1' : w.cell? ⟨nb, no + 1, none⟩ = some (.slice n0.na K n0.nc) := HR1.out w hK.out.now
 go_enter Tryz.func33, Tryz.ntmps33
 go_wp2_with fail
 go_cut [57] (fun s wr => ∃ b : Bool, s = .bool b ∧ Hid ((b = true ∧ v = false) ∨ (b = false ∧ HeadK T.L K)) ∧ Hid (St w0 wr (fun W => BoxC (w.heap.size + 1) [.int .i64 (K : Int)] W ∧ TabBox w.heap.size cs W ∧ F W)))
 case first =>
  have hkc := HKk.out.now.1 0 _ rfl
  by_cases b1 : (K : Int) < 1
  ·have g1 : decide ((K : Int) < 1) = true := decide_eq_true b1
   have HV : Hid (v = false) := Lh (HNO.out (fun H => by
    obtain ⟨n, hn, _, h2, _⟩ := H.head.2.2.2
    rw [nodesL_at HN0.out] at hn; injection hn with hn; subst hn
    have h3 : 1 ≤ n0.nx.length := h2
    rw [HKN.out] at h3; omega))
   clear b1 HQ
   go_quiet (fail)
   go_wp2_with fail
   go_meet
   exact ⟨true, rfl, Lh (.inl ⟨rfl, HV.out⟩), St.hdrewN HKk nq⟩
  have g1 : decide ((K : Int) < 1) = false := decide_eq_false b1
  by_cases b2 : (256 : Int) < K
  ·have g2 : decide ((256 : Int) < (K : Int)) = true := decide_eq_true b2
   have HV : Hid (v = false) := Lh (HNO.out (fun H => by
    obtain ⟨n, hn, _, _, h2⟩ := H.head.2.2.2
    rw [nodesL_at HN0.out] at hn; injection hn with hn; subst hn
    have h3 : n0.nx.length ≤ 256 := h2
    rw [HKN.out] at h3; omega))
   clear b1 b2 HQ
   go_quiet (fail)
   go_wp2_with fail
   go_meet
   exact ⟨true, rfl, Lh (.inl ⟨rfl, HV.out⟩), St.hdrewN HKk nq⟩
  have g2 : decide ((256 : Int) < (K : Int)) = false := decide_eq_false b2
  have hmk := HMK.out (by omega)
  by_cases b3 : (K : Int) ≤ M
  ·have g3 : decide ((K : Int) ≤ M) = true := decide_eq_true b3
   have HV : Hid (v = false) := Lh (HNO.out (fun H => by
    have h3 := H.cls
    rw [HW.out] at h3
    have := hmk.2 h3
    omega))
   clear b1 b2 b3 hmk
   go_quiet ((go_at_call 85; exact HQ.out _))
   go_wp2_with fail
   go_meet
   exact ⟨true, rfl, Lh (.inl ⟨rfl, HV.out⟩), St.hdrewN HKk nq⟩
  ·have g3 : decide ((K : Int) ≤ M) = false := decide_eq_false b3
   have HH : Hid (HeadK T.L K) := Lh ⟨by omega, by omega, hmk.1 (by omega)⟩
   clear b1 b2 b3 hmk
   go_quiet ((go_at_call 85; exact HQ.out _))
   go_wp2_with fail
   go_meet
   exact ⟨false, rfl, Lh (.inr ⟨rfl, HH.out⟩), St.hdrewN HKk nq⟩
 case rest =>
 clear HQ HMK HKk r0 r1 r2 r1' HK
 obtain ⟨b, rfl, hb, HK⟩ := hcut
 rcases hb.out with ⟨rfl, rfl⟩ | ⟨rfl, hen⟩
 ·clear hb
  go_wp2_with fail
  go_ret
  exact ⟨rfl, Lh (HK.out.weaken fun _ h => h.2.2)⟩
 have HEN := Lh hen
 have q7 := HK.out.now.2.1.cell1 h257
 clear hb hen
 have hfin : ∀ W, Hid (St w0 W (fun W => BoxC (w.heap.size + 1) [.int .i64 (K : Int)] W ∧ TabBox w.heap.size cs W ∧ F W)) → Hid (St w0 W F) := fun W h => Lh (h.out.weaken fun _ h => h.2.2)
 have HF := Lh hfin
 have hlw : w.heap.size < w.heap.size + 1 := by omega
 clear hfin
 go_wp2_with fail
 go_loopw [61] (fun i wr => ∃ m : Nat, m ≤ T.acts.length ∧ i = .int .i64 m ∧ Hid (ActsTo T.L T.acts m) ∧ Hid (St w0 wr (fun W => BoxC (w.heap.size + 1) [.int .i64 (K : Int)] W ∧ TabBox w.heap.size cs W ∧ F W))) (fun i _ => T.acts.length - (intOf i).toNat)
 case atStart => exact ⟨0, Nat.zero_le _, rfl, Lh (fun i hi => by simp at hi), HK⟩
 case round =>
 clear HK q7
 obtain ⟨m, hm, rfl, HR, HK⟩ := hrel
 by_cases hlt : m < T.acts.length
 ·obtain ⟨ab, ao, a, hB, ha, haw, r0, r1, r2⟩ := (HT.out _ HK.out.now.2.2).acts.at_ hlt
  have HAC := Lh ha
  have q6 := HK.out.now.2.1.cell1 g256
  have l1 := lt_of_cell r0
  have l2 := lt_of_cell q6
  have HKa := St.box HK [.int .i64 a.e, .int .i64 a.d, .slice a.o.a a.o.l.length a.o.c] 59
  have HNA : Hid (¬ ActOk T.L a.L → v = false) := Lh fun H => HNO.out (fun H2 => H (H2.acts _ (List.mem_map.2 ⟨a, List.mem_of_getElem? HAC.out, rfl⟩)))
  have HYA : Hid (ActOk T.L a.L → ActsTo T.L T.acts (m + 1)) := Lh fun H => HR.out.next HAC.out H
  rw [hB]
  clear ha haw hB
  have HFA : Hid (∀ W, Hid (St w0 W (fun W => BoxC wr.heap.size [.int .i64 a.e, .int .i64 a.d, .slice a.o.a a.o.l.length a.o.c] W ∧ BoxC (w.heap.size + 1) [.int .i64 (K : Int)] W ∧ TabBox w.heap.size cs W ∧ F W)) → Hid (St w0 W F)) := Lh fun W h => Lh (h.out.weaken fun _ h => h.2.2.2)
  by_cases c1 : ¬ 1 ≤ a.e
  ·obtain rfl := HNA.out (fun H => c1 H.1)
   have c1' : a.e < 1 := by omega
   clear c1
   go_wp2_with fail
   go_ret
   exact ⟨rfl, HFA.out _ HKa⟩
  have c1 := Classical.not_not.1 c1
  by_cases c2 : ¬ a.e ≤ 4
  ·obtain rfl := HNA.out (fun H => c2 H.2.1)
   have c2' : 4 < a.e := by omega
   clear c2
   go_wp2_with fail
   go_ret
   exact ⟨rfl, HFA.out _ HKa⟩
  have c2 := Classical.not_not.1 c2
  by_cases c3 : ¬ 0 ≤ a.d
  ·obtain rfl := HNA.out (fun H => c3 H.2.2.1)
   have c3' : a.d < 0 := by omega
   clear c3
   go_wp2_with fail
   go_ret
   exact ⟨rfl, HFA.out _ HKa⟩
  have c3 := Classical.not_not.1 c3
  by_cases c4 : (T.ns.length : Int) ≤ a.d
  ·obtain rfl := HNA.out (fun H => by
    obtain ⟨n, hn, _⟩ := H.2.2.2.1
    have := (List.getElem?_eq_some_iff.1 hn).1
    rw [nodesL_len] at this
    have e : a.L.dest = a.d := rfl
    rw [e] at this
    omega)
   go_wp2_with fail
   go_ret
   exact ⟨rfl, HFA.out _ HKa⟩
  obtain ⟨j, hj⟩ := Int.eq_ofNat_of_zero_le c3
  have hjl : j < T.ns.length := by omega
  obtain ⟨qb, qo, q, hB2, hq, hqw, s0, s1, s2⟩ := (HT.out _ HK.out.now.2.2).nodes.at_ hjl
  rw [hA] at hB2
  injection hB2 with hB2
  injection hB2 with e1 e2
  subst e1; subst e2
  have HQN := Lh hq
  have HJ := Lh hj
  have e3 : a.L.dest.toNat = j := by show a.d.toNat = j; rw [hj, Int.toNat_natCast]
  have HE3 := Lh e3
  have l3 := lt_of_cell s0
  have hjb : (j : Int) < (T.ns.length : Int) := by omega
  have hj0 : (0 : Int) ≤ (j : Int) := by omega
  clear hq hqw s1 s2 e3 c3 c4
  rw [hj] at r1
  rw [hj] at HKa HFA
  by_cases c5 : ¬ q.h = 0
  ·obtain rfl := HNA.out (fun H => c5 (by
    obtain ⟨n, hn, h1⟩ := H.2.2.2.1
    rw [HE3.out, nodesL_at HQN.out] at hn; injection hn with hn; subst hn; exact h1))
   have c5' : (q.h != 0) = true := by rw [bne_iff_ne]; exact c5
   clear c5 hj
   go_wp2_with fail
   go_ret
   exact ⟨rfl, HFA.out _ HKa⟩
  have c5 := Classical.not_not.1 c5
  have c5' : (q.h != 0) = false := by rw [bne_eq_false_iff_eq]; exact c5
  by_cases c6 : ¬ a.o.l.length ≤ 64
  ·obtain rfl := HNA.out (fun H => c6 (by have := H.2.2.2.2; rwa [show a.L.out.length = a.o.l.length from outL_len a.o] at this))
   have c6' : (64 : Int) < a.o.l.length := by omega
   clear c5 c6 hj
   go_wp2_with fail
   go_ret
   exact ⟨rfl, HFA.out _ HKa⟩
  have c6 := Classical.not_not.1 c6
  have HYA2 := Lh (HYA.out ⟨c1, c2, by show 0 ≤ a.d; rw [hj]; exact hj0, ⟨q.L, by rw [HE3.out]; exact nodesL_at HQN.out, c5⟩, by rw [show a.L.out.length = a.o.l.length from outL_len a.o]; exact c6⟩)
  clear c5 hj
  go_wp2_with fail
  exact ⟨⟨m + 1, by omega, by go_num, HYA2, Lh (HKa.out.weaken fun _ h => h.2)⟩, by simp [intOf]; omega⟩
 obtain rfl : m = T.acts.length := by omega
 have hd : decide (T.acts.length < T.acts.length) = false := by simp
 have HACTS := Lh HR.out.all
 have q8 := HK.out.now.2.1.cell1 h258
 clear HR hm
 go_wp2_with fail
 clear hd
 go_loopw [106] (fun i wr => ∃ m : Nat, m ≤ T.es.length ∧ i = .int .i64 m ∧ Hid (EndsTo T.es m) ∧ Hid (St w0 wr (fun W => BoxC (w.heap.size + 1) [.int .i64 (K : Int)] W ∧ TabBox w.heap.size cs W ∧ F W))) (fun i _ => T.es.length - (intOf i).toNat)
 case atStart => exact ⟨0, Nat.zero_le _, rfl, Lh (fun i hi => by simp at hi), HK⟩
 case round =>
 clear HK q8
 obtain ⟨m, hm, rfl, HR, HK⟩ := hrel
 by_cases hlt2 : m < T.es.length
 ·obtain ⟨eb, eo, o, hB, ho, how, r0⟩ := (HT.out _ HK.out.now.2.2).ends.at_ hlt2
  have HO := Lh ho
  rw [hB]
  clear ho how hB
  by_cases c6 : ¬ o.l.length ≤ 64
  ·obtain rfl := HNO.out (fun H => c6 (by have := H.ends o.L (List.mem_map.2 ⟨o, List.mem_of_getElem? HO.out, rfl⟩); rwa [outL_len] at this))
   have c6' : (64 : Int) < o.l.length := by omega
   clear c6
   go_wp2_with fail
   go_ret
   exact ⟨rfl, HF.out _ HK⟩
  have c6 := Classical.not_not.1 c6
  have HY := Lh (HR.out.next HO.out c6)
  go_wp2_with fail
  exact ⟨⟨m + 1, by omega, by go_num, HY, HK⟩, by simp [intOf]; omega⟩
 obtain rfl : m = T.es.length := by omega
 have hd : decide (T.es.length < T.es.length) = false := by simp
 have HENDS := Lh HR.out.all
 have q6 := HK.out.now.2.1.cell1 h256
 clear HR hm
 have HV : Hid (pB (NodesOk T.L K) = v) := Lh (by
  rw [← hv.out]
  refine pB_congr ⟨fun H => ⟨⟨by rw [nodesL_len]; exact hl1, by rw [actsL_len]; exact hl2, by rw [endsL_len]; exact hl3, n0.L, nodesL_at HN0.out, HA5.out, ?_, ?_⟩, by rw [HW.out]; exact HEN.out.2.2, HACTS.out, HENDS.out, by rw [HW.out]; exact H⟩, fun H => ?_⟩
  ·show 1 ≤ n0.nx.length; rw [HKN.out]; exact HEN.out.1
  ·show n0.nx.length ≤ 256; rw [HKN.out]; exact HEN.out.2.1
  ·have := H.nodes; rwa [HW.out] at this)
 have hK256 : K ≤ 256 := HEN.out.2.1
 go_wp2_with fail
 have hcn := containsN_st HK cs T hC (fun _ h => HT.out _ h.2.2) w.heap.size (w.heap.size + 1) K (fun _ h => h.2.1) (fun _ h => h.1) v HV hl1 hl2 hl3 hK256
 rw [hA] at hcn
 refine hcn.mono ?_
 clear hcn
 rintro e w9 ⟨rfl, HK9⟩
 cases v
 all_goals
  go_wp2_with fail
  go_ret
  exact ⟨rfl, HF.out _ HK9⟩
end
end
section
def one17 (t : TermL) : Nat := 1 + min t.parts.length 90000
def sizeL (l : List TermL) : Nat := if 300 < l.length then 90000 else (l.map one17).sum
def nodeN (n : NodeL) : Nat := min n.next.length 90000
def sumT (T : TabL) : Nat := ((T.nodes.map nodeN).sum + (T.acts.map fun a => sizeL a.out).sum) + (T.ends.map sizeL).sum
def SmallT (T : TabL) : Prop := T.nodes.length ≤ 300 ∧ T.acts.length ≤ 300 ∧ T.ends.length ≤ 300 ∧ sumT T ≤ 80000
theorem sum_take {α : Type} (f : α → Nat) {l : List α} {k : Nat} {x : α} (h : l[k]? = some x) : ((l.take (k + 1)).map f).sum = ((l.take k).map f).sum + f x := by
 rw [take_snoc? h, List.map_append, List.sum_append]; simp
theorem sum_le {α : Type} (f : α → Nat) (m : Nat) (hf : ∀ x, f x ≤ m) (l : List α) : (l.map f).sum ≤ l.length * m := by
 induction l with
 | nil => simp
 | cons x l ih => have := hf x; rw [List.map_cons, List.sum_cons, List.length_cons, Nat.add_mul]; omega
theorem sum_take_le {α : Type} (f : α → Nat) (m n : Nat) (hf : ∀ x, f x ≤ m) (l : List α) (hl : l.length ≤ n) (k : Nat) : ((l.take k).map f).sum ≤ n * m := by
 refine Nat.le_trans (sum_le f m hf _) (Nat.mul_le_mul_right _ ?_)
 rw [List.length_take]; omega
theorem one17_le (t : TermL) : one17 t ≤ 90001 := by unfold one17; omega
theorem nodeN_le (t : NodeL) : nodeN t ≤ 90000 := by unfold nodeN; omega
theorem sizeL_le (l : List TermL) : sizeL l ≤ 27000300 := by
 unfold sizeL
 split
 ·omega
 ·have := sum_le one17 90001 one17_le l
  have h2 : l.length * 90001 ≤ 300 * 90001 := Nat.mul_le_mul_right _ (by omega)
  omega
section
variable {w0 w : World} {F : World → Prop}
theorem size_st (hK : Hid (St w0 w F)) (o : OutI) (hp : ∀ W, F W → OutW o W) (v : Nat) (hv : Hid (sizeL o.L = v)) :
  Calls Tryz.prog 84 #[.slice o.a o.l.length o.c] w (RetV w0 (.int .i64 (v : Int)) F) := by
 have hln := (hp _ hK.out.now).ln
 have HP := Lh hp
 have HOL : Hid (o.L.length = o.l.length) := Lh (List.length_map _)
 clear hp
 by_cases h3 : 300 < o.l.length
 ·obtain rfl : v = 90000 := by rw [← hv.out]; unfold sizeL; rw [if_pos (by rw [HOL.out]; exact h3)]
  have h3' : (300 : Int) < o.l.length := by omega
  go_enter Tryz.func84, Tryz.ntmps84
  go_wp2_with fail
  go_ret
  exact ⟨rfl, hK⟩
 have h3' : ¬ (300 : Int) < o.l.length := by omega
 have HV : Hid ((o.L.map one17).sum = v) := Lh (by rw [← hv.out]; unfold sizeL; rw [if_neg (by rw [HOL.out]; exact h3)])
 obtain ⟨oa, oc, ol⟩ := o
 simp only at *
 go_enter Tryz.func84, Tryz.ntmps84
 go_wp2_with fail
 go_loop [3, 4] (fun s i => ∃ (k n : Nat), k ≤ ol.length ∧ i = .int .i64 k ∧ s = .int .i64 (n : Int) ∧ n ≤ 27000300 ∧ Hid (n = (((ol.map TermI.L).take k).map one17).sum)) (fun _ i => ol.length - (intOf i).toNat)
 case atStart => exact ⟨0, 0, by omega, rfl, rfl, by omega, Lh (by simp)⟩
 case round =>
 obtain ⟨k, n, hk, rfl, rfl, hn, HN⟩ := hrel
 by_cases hlt : k < ol.length
 ·obtain ⟨b, off, i, hA, hx, hw, hd0, hd1, hd2, hd3, hd4, hd5⟩ := (HP.out _ hK.out.now).at_ hlt
  simp only at hA
  subst hA
  have hpl := hw.2.ln
  have hxl : (ol.map TermI.L)[k]? = some i.L := by rw [List.getElem?_map, hx]; rfl
  obtain ⟨m, hm⟩ : ∃ m : Nat, min i.ps.length 90000 = m := ⟨_, rfl⟩
  have HN2 : Hid (n + 1 + m = (((ol.map TermI.L).take (k + 1)).map one17).sum) := Lh (by rw [sum_take one17 hxl, ← HN.out, ← hm]; show _ = n + (1 + min i.ps.length 90000); omega)
  have hm1 : m ≤ 90000 := by omega
  have hb : n + 1 + m ≤ 27000300 := by
   have h1 := sum_take_le one17 90001 300 one17_le (ol.map TermI.L) (by rw [List.length_map]; omega) (k + 1)
   rw [← HN2.out] at h1; omega
  have hmi : min (i.ps.length : Int) 90000 = (m : Int) := by omega
  clear hx hw hxl hm hd0 hd1 hd2 hd3 hd4
  go_wp2_with fail
  go_round
  case rel => exact ⟨k + 1, n + 1 + m, by omega, by go_num, by go_num, hb, HN2⟩
  case measure => simp [intOf]; omega
 ·obtain rfl : k = ol.length := by omega
  have hd : decide (ol.length < ol.length) = false := by simp
  have HE : Hid ((n : Int) = v) := Lh (by
   have h1 := HN.out
   rw [show ol.length = (ol.map TermI.L).length from (List.length_map _).symm, List.take_length] at h1
   have h2 := HV.out
   have h3 : (OutI.L ⟨oa, oc, ol⟩) = ol.map TermI.L := rfl
   rw [h3] at h2; omega)
  go_wp2_with fail
  go_ret
  exact ⟨congrArg (fun u => Ending.returned (.int .i64 u)) HE.out, hK⟩
theorem Small_st (hK : Hid (St w0 w F)) (cs : Array Value) (T : TabI) (hC : TabC cs T) (ht : ∀ W, F W → TabW T W) (v : Bool) (hv : Hid (pB (SmallT T.L) = v)) :
  Calls Tryz.prog 32 #[.agg cs] w (RetV w0 (.bool v) F) := by
 have HT := Lh ht
 have h258 := hC.c3
 have h257 := hC.c2
 have h256 := hC.c1
 have HK := St.tbox hK cs
 have HRES : Hid (∀ W, Hid (St w0 W (fun W => TabBox w.heap.size cs W ∧ F W)) → Hid (St w0 W F)) := Lh fun W h => Lh (h.out.weaken fun _ h => h.2)
 clear ht
 have hln1 := (HT.out _ HK.out.now.2).nodes.ln
 have hln2 := (HT.out _ HK.out.now.2).acts.ln
 have hln3 := (HT.out _ HK.out.now.2).ends.ln
 by_cases a2 : ¬ T.ns.length ≤ 300
 ·obtain rfl := pB_f hv (fun H => a2 (by have := H.1; rwa [nodesL_len] at this))
  have a2' : (300 : Int) < T.ns.length := by omega
  clear a2
  go_enter Tryz.func32, Tryz.ntmps32
  go_wp2_with fail
  go_ret
  exact ⟨rfl, HRES.out _ HK⟩
 by_cases a3 : ¬ T.acts.length ≤ 300
 ·obtain rfl := pB_f hv (fun H => a3 (by have := H.2.1; rwa [actsL_len] at this))
  have a3' : (300 : Int) < T.acts.length := by omega
  clear a2 a3
  go_enter Tryz.func32, Tryz.ntmps32
  go_wp2_with fail
  all_goals (go_ret; exact ⟨rfl, HRES.out _ HK⟩)
 by_cases a4 : ¬ T.es.length ≤ 300
 ·obtain rfl := pB_f hv (fun H => a4 (by have := H.2.2.1; rwa [endsL_len] at this))
  have a4' : (300 : Int) < T.es.length := by omega
  clear a2 a3 a4
  go_enter Tryz.func32, Tryz.ntmps32
  go_wp2_with fail
  all_goals (go_ret; exact ⟨rfl, HRES.out _ HK⟩)
 have hl1 : T.ns.length ≤ 300 := by omega
 have hl2 : T.acts.length ≤ 300 := by omega
 have hl3 : T.es.length ≤ 300 := by omega
 clear a2 a3 a4 hln1 hln2 hln3
 go_enter Tryz.func32, Tryz.ntmps32
 go_wp2_with fail
 go_loopw [3, 4] (fun s i wr => ∃ (k n : Nat), k ≤ T.ns.length ∧ i = .int .i64 k ∧ s = .int .i64 (n : Int) ∧ n ≤ 27000000 ∧ Hid (n = ((T.L.nodes.take k).map nodeN).sum) ∧ Hid (St w0 wr (fun W => TabBox w.heap.size cs W ∧ F W))) (fun _ i _ => T.ns.length - (intOf i).toNat)
 case atStart => exact ⟨0, 0, by omega, rfl, rfl, by omega, Lh (by simp), HK⟩
 case round =>
 clear HK
 obtain ⟨k, n, hk, rfl, rfl, hn, HN, HK⟩ := hrel
 have p6 := HK.out.now.1.cell1 h256
 by_cases hlt : k < T.ns.length
 ·obtain ⟨b, off, q, hA, hx, hw, r0, r1, r2⟩ := (HT.out _ HK.out.now.2).nodes.at_ hlt
  rw [hA] at p6
  have hpl := hw.2.ln
  have hxl := nodesL_at hx
  obtain ⟨m, hm⟩ : ∃ m : Nat, min q.nx.length 90000 = m := ⟨_, rfl⟩
  have HN2 : Hid (n + m = ((T.L.nodes.take (k + 1)).map nodeN).sum) := Lh (by rw [sum_take nodeN hxl, ← HN.out, ← hm]; rfl)
  have hm1 : m ≤ 90000 := by omega
  have hb : n + m ≤ 27000000 := by
   have h1 := sum_take_le nodeN 90000 300 nodeN_le T.L.nodes (by rw [nodesL_len]; omega) (k + 1)
   rw [← HN2.out] at h1; omega
  have hmi : min (q.nx.length : Int) 90000 = (m : Int) := by omega
  clear hx hw hxl hm r0 r2 hA
  go_wp2_with fail
  exact ⟨⟨k + 1, n + m, by omega, by go_num, by go_num, hb, HN2, HK⟩, by simp [intOf]; omega⟩
 obtain rfl : k = T.ns.length := by omega
 have hd : decide (T.ns.length < T.ns.length) = false := by simp
 have HN1 : Hid (n = (T.L.nodes.map nodeN).sum) := Lh (by
  have h1 := HN.out
  rwa [← nodesL_len, List.take_length] at h1)
 have hn1 := hn
 obtain ⟨n1, hnn⟩ : ∃ n1, n = n1 := ⟨_, rfl⟩
 rw [hnn] at hn1 HN1 ⊢
 clear HN hn hnn n
 go_wp2_with fail
 clear hd p6
 go_loopw [3, 5] (fun s i wr => ∃ (k n : Nat), k ≤ T.acts.length ∧ i = .int .i64 k ∧ s = .int .i64 (n : Int) ∧ n ≤ 27000000 + 300 * 27000300 ∧ Hid (n = n1 + ((T.L.acts.take k).map fun a => sizeL a.out).sum) ∧ Hid (St w0 wr (fun W => TabBox w.heap.size cs W ∧ F W))) (fun _ i _ => T.acts.length - (intOf i).toNat)
 case atStart => exact ⟨0, n1, by omega, rfl, rfl, by omega, Lh (by simp), HK⟩
 case round =>
 clear HK
 obtain ⟨k, n, hk, rfl, rfl, hn, HN, HK⟩ := hrel
 have p7 := HK.out.now.1.cell1 h257
 by_cases hlt : k < T.acts.length
 ·obtain ⟨b, off, q, hA, hx, hw, r0, r1, r2⟩ := (HT.out _ HK.out.now.2).acts.at_ hlt
  rw [hA] at p7
  have hxl := actsL_at hx
  obtain ⟨m, hm⟩ : ∃ m : Nat, sizeL q.o.L = m := ⟨_, rfl⟩
  have HM := Lh hm
  have HN2 : Hid (n + m = n1 + ((T.L.acts.take (k + 1)).map fun a => sizeL a.out).sum) := Lh (by rw [sum_take (fun a => sizeL a.out) hxl, ← hm]; have := HN.out; show n + _ = n1 + (_ + sizeL q.o.L); omega)
  have hm1 : m ≤ 27000300 := by rw [← hm]; exact sizeL_le _
  have hb : n + m ≤ 27000000 + 300 * 27000300 := by
   have h1 := sum_take_le (fun a : ActL => sizeL a.out) 27000300 300 (fun _ => sizeL_le _) T.L.acts (by rw [actsL_len]; omega) (k + 1)
   have h2 := HN2.out; omega
  have HKo := Lh (HK.out.add (Below.refl _ _) (G := OutW q.o) (fun W hW => OutW.stays _ _ _ hw.2 hW))
  clear hx hw hxl hm r0 r1 hA
  go_wp2_with fail
  refine (size_st HKo q.o (fun _ h => h.1) m HM).mono ?_
  rintro e w5 ⟨rfl, HK5⟩
  go_wp2_with fail
  exact ⟨⟨k + 1, n + m, by omega, by go_num, by go_num, hb, HN2, Lh (HK5.out.weaken fun _ h => h.2)⟩, by simp [intOf]; omega⟩
 obtain rfl : k = T.acts.length := by omega
 have hd : decide (T.acts.length < T.acts.length) = false := by simp
 have HN2 : Hid (n = n1 + (T.L.acts.map fun a => sizeL a.out).sum) := Lh (by
  have h1 := HN.out
  rwa [← actsL_len, List.take_length] at h1)
 have hn2 := hn
 obtain ⟨n2, hnn⟩ : ∃ n2, n = n2 := ⟨_, rfl⟩
 rw [hnn] at hn2 HN2 ⊢
 clear HN hn hnn n
 go_wp2_with fail
 clear hd p7
 go_loopw [3, 6] (fun s i wr => ∃ (k n : Nat), k ≤ T.es.length ∧ i = .int .i64 k ∧ s = .int .i64 (n : Int) ∧ n ≤ 27000000 + 600 * 27000300 ∧ Hid (n = n2 + ((T.L.ends.take k).map sizeL).sum) ∧ Hid (St w0 wr (fun W => TabBox w.heap.size cs W ∧ F W))) (fun _ i _ => T.es.length - (intOf i).toNat)
 case atStart => exact ⟨0, n2, by omega, rfl, rfl, by omega, Lh (by simp), HK⟩
 case round =>
 clear HK
 obtain ⟨k, n, hk, rfl, rfl, hn, HN, HK⟩ := hrel
 have p8 := HK.out.now.1.cell1 h258
 by_cases hlt : k < T.es.length
 ·obtain ⟨b, off, q, hA, hx, hw, r0⟩ := (HT.out _ HK.out.now.2).ends.at_ hlt
  rw [hA] at p8
  have hxl := endsL_at hx
  obtain ⟨m, hm⟩ : ∃ m : Nat, sizeL q.L = m := ⟨_, rfl⟩
  have HM := Lh hm
  have HN2 : Hid (n + m = n2 + ((T.L.ends.take (k + 1)).map sizeL).sum) := Lh (by rw [sum_take sizeL hxl, ← hm]; have := HN.out; omega)
  have hm1 : m ≤ 27000300 := by rw [← hm]; exact sizeL_le _
  have hb : n + m ≤ 27000000 + 600 * 27000300 := by
   have h1 := sum_take_le sizeL 27000300 300 sizeL_le T.L.ends (by rw [endsL_len]; omega) (k + 1)
   have h2 := HN2.out; omega
  have HKo := Lh (HK.out.add (Below.refl _ _) (G := OutW q) (fun W hW => OutW.stays _ _ _ hw hW))
  clear hx hw hxl hm hA
  go_wp2_with fail
  refine (size_st HKo q (fun _ h => h.1) m HM).mono ?_
  rintro e w5 ⟨rfl, HK5⟩
  go_wp2_with fail
  exact ⟨⟨k + 1, n + m, by omega, by go_num, by go_num, hb, HN2, Lh (HK5.out.weaken fun _ h => h.2)⟩, by simp [intOf]; omega⟩
 obtain rfl : k = T.es.length := by omega
 have hd : decide (T.es.length < T.es.length) = false := by simp
 have HN3 : Hid (n = sumT T.L) := Lh (by
  have h1 := HN.out
  rw [← endsL_len, List.take_length] at h1
  rw [h1, HN2.out, HN1.out]; rfl)
 by_cases h8 : n ≤ 80000
 ·have h8' : decide ((n : Int) ≤ 80000) = true := decide_eq_true (by omega)
  obtain rfl := pB_t hv ⟨by rw [nodesL_len]; exact hl1, by rw [actsL_len]; exact hl2, by rw [endsL_len]; exact hl3, by rw [← HN3.out]; exact h8⟩
  clear h8
  go_wp2_with fail
  go_ret
  exact ⟨rfl, HRES.out _ HK⟩
 ·have h8' : decide ((n : Int) ≤ 80000) = false := decide_eq_false (by omega)
  obtain rfl := pB_f hv (fun H => h8 (by rw [HN3.out]; exact H.2.2.2))
  clear h8
  go_wp2_with fail
  go_ret
  exact ⟨rfl, HRES.out _ HK⟩
end
end
section
open Go.Shelf
attribute [local go_sem] Oper.semAt_some
def numsOf (p : Sp) : List Int := (List.range (p.2 - p.1 + 1).toNat).map fun i : Nat => p.1 + (i : Int)
def nums (r : List Sp) : List Int := r.flatMap numsOf
theorem numsOf_length (p : Sp) : (numsOf p).length = (p.2 - p.1 + 1).toNat := by simp [numsOf]
theorem nums_cons (p : Sp) (r : List Sp) : nums (p :: r) = numsOf p ++ nums r := rfl
theorem nums_append (r s : List Sp) : nums (r ++ s) = nums r ++ nums s := by simp [nums]
theorem nums_length {a : Int} {r : List Sp} (h : PlainF a r) : ((nums r).length : Int) = cnt r := by
 induction r generalizing a with
 | nil => rfl
 | cons p r ih =>
  obtain ⟨h1, h2, h3, h4⟩ := h
  rw [nums_cons, List.length_append, numsOf_length, cnt_cons, ← ih h4]
  omega
def OwnB (lo hi Bu : Nat) (W : World) (k : Nat) : Prop := (lo ≤ k ∧ k < hi) ∨ ∃ off n c, W.cell? ⟨Bu, 0, none⟩ = some (.slice (some ⟨k, off, none⟩) n c)
structure KpO (O : World → Nat → Prop) (W W' : World) : Prop where
 size : W.heap.size ≤ W'.heap.size
 cell : ∀ (p : Addr) v, W.cell? p = some v → ¬ O W p.block → W'.cell? p = some v
 own : ∀ k, O W' k → O W k ∨ W.heap.size ≤ k
 wf : (∀ k, O W k → k < W.heap.size) → (∀ k, O W' k → k < W'.heap.size)
abbrev KpB (lo hi Bu : Nat) := KpO (OwnB lo hi Bu)
def OnB (B0 : Nat) (O : World → Nat → Prop) : Prop := ∀ W W' : World, (∀ k, k < B0 → W'.heap[k]? = W.heap[k]?) → ∀ k, O W' k ↔ O W k
section
variable {O : World → Nat → Prop} {A B C W W' : World}
theorem KpO.refl (W : World) : KpO O W W := ⟨Nat.le_refl _, fun _ _ h _ => h, fun _ h => .inl h, fun h => h⟩
theorem KpO.trans (h : KpO O A B) (k : KpO O B C) : KpO O A C := by
 refine ⟨Nat.le_trans h.size k.size, fun p v hv ho => ?_, fun j hj => ?_, fun hw => k.wf (h.wf hw)⟩
 ·refine k.cell p v (h.cell p v hv ho) fun ho' => ?_
  rcases h.own _ ho' with h1 | h1
  ·exact ho h1
  ·have := World.block_lt_of_cell? A p hv; omega
 ·rcases k.own j hj with h1 | h1
  ·exact h.own j h1
  ·exact .inr (Nat.le_trans h.size h1)
theorem KpO.same (hs : W.heap.size ≤ W'.heap.size) (hc : ∀ (p : Addr) v, W.cell? p = some v → ¬ O W p.block → W'.cell? p = some v) (hb : ∀ k, O W' k ↔ O W k) : KpO O W W' :=
 ⟨hs, hc, fun k hk => .inl ((hb k).1 hk), fun hw k hk => Nat.lt_of_lt_of_le (hw k ((hb k).1 hk)) hs⟩
theorem KpO.below {n : Nat} (h : Below n W W') (hn : W.heap.size ≤ n) {B0 : Nat} (hO : OnB B0 O) (hb : B0 ≤ W.heap.size) : KpO O W W' :=
 KpO.same h.size (fun p u hu _ => (h.cell (Nat.lt_of_lt_of_le (World.block_lt_of_cell? W p hu) hn)).trans hu) (hO _ _ fun k hk => h.block k (by omega))
end
section
variable {lo hi Bu : Nat} {A B C W W' : World}
theorem OwnB.congr (h : W'.cell? ⟨Bu, 0, none⟩ = W.cell? ⟨Bu, 0, none⟩) (k : Nat) : OwnB lo hi Bu W' k ↔ OwnB lo hi Bu W k := by unfold OwnB; rw [h]
theorem ownB_on {B0 : Nat} (h : Bu < B0) : OnB B0 (OwnB lo hi Bu) := fun W W' hW k => OwnB.congr (World.cell?_of_block (hW Bu h)) k
theorem KpB.refl (W : World) : KpB lo hi Bu W W := KpO.refl W
theorem KpB.trans (h : KpB lo hi Bu A B) (k : KpB lo hi Bu B C) : KpB lo hi Bu A C := KpO.trans h k
theorem KpB.same (hs : W.heap.size ≤ W'.heap.size) (hc : ∀ (p : Addr) v, W.cell? p = some v → ¬ OwnB lo hi Bu W p.block → W'.cell? p = some v) (hb : W'.cell? ⟨Bu, 0, none⟩ = W.cell? ⟨Bu, 0, none⟩) : KpB lo hi Bu W W' :=
 KpO.same hs hc (OwnB.congr hb)
theorem KpB.setCell (b : Nat) (v : Value) (h1 : lo ≤ b) (h2 : b < hi) (hne : b ≠ Bu) : KpB lo hi Bu W (W.setCell ⟨b, 0, none⟩ v) := by
 refine KpB.same (by simp) (fun p u hu ho => ?_) ?_
 ·rw [World.cell?_setCell_far _ _ _ _ (fun e => ho (.inl (by rw [← e]; exact ⟨h1, h2⟩)))]; exact hu
 ·exact World.cell?_setCell_far _ _ _ _ hne
theorem KpB.below {n : Nat} (h : Below n W W') (hn : W.heap.size ≤ n) (hb : Bu < W.heap.size) : KpB lo hi Bu W W' :=
 KpB.same h.size (fun p u hu _ => (h.cell (Nat.lt_of_lt_of_le (World.block_lt_of_cell? W p hu) hn)).trans hu) (h.cell (Nat.lt_of_lt_of_le hb hn))
theorem kpB_t (h : KpB lo hi Bu A B) (k : KpB lo hi Bu B C) : KpB lo hi Bu A C := h.trans k
theorem kpB_b {w : World} (hb : Bu < w.heap.size) (W : World) (l : Nat) (o o' : Obj) (hl : w.heap.size ≤ l) (h : W.heap[l]? = some o) (hc : o.isCells = false) (_ : o.isWalk = false) : KpB lo hi Bu W (W.putObj l o') := by
 have hlt := (Array.getElem?_eq_some_iff.1 h).1
 have hb2 := belowK_b (n₀ := w.heap.size) (Nat.le_refl _) W l o o' hl h hc (by assumption)
 refine KpB.same hb2.size (fun p u hu _ => ?_) (hb2.cell (p := ⟨Bu, 0, none⟩) hb)
 have hne : p.block ≠ l := by
  intro e
  unfold World.cell? at hu
  rw [e, h] at hu
  cases o <;> simp_all [Obj.isCells]
 have hg := grownBy_putObj' W l o'
 rw [← hu]
 exact World.cell?_of_block (hg.block p.block (World.block_lt_of_cell? W p hu) (fun e => hne (by simpa using e)))
end
theorem Each_any (A : Option Addr) (n c : Nat) (l r : List Sp) (w : World) (h : Spans w A n l) (hw : SpW l) (hn : n < 137438953472) (hr : Rep r (Mem l)) :
  Calls Tryz.prog 243 #[.slice A n c] w fun e w' => ∃ B g c1, e = .returned (.func (.func 249) #[] #[.pointer (some ⟨B, 0, none⟩)]) ∧ (w.heap.size ≤ B ∧ B < w'.heap.size ∧ w.heap.size ≤ g ∧ g < B) ∧
   w'.cell? ⟨B, 0, none⟩ = some (.slice (some ⟨g, 0, none⟩) r.length c1) ∧ Spans w' (some ⟨g, 0, none⟩) r.length r ∧ Below w.heap.size w w' := by
 have HN := Lh (Norm_any A n c l w h hw (by omega))
 have HR := Lh hr
 clear h hr
 go_enter Tryz.func243, Tryz.ntmps243
 go_wp2_with fail
 refine HN.out.mono ?_
 rintro e w1 ⟨r', ho, hr', hrl⟩
 obtain rfl : r' = r := Rep.unique hr' HR.out (fun _ => Iff.rfl)
 obtain ⟨g1, c1, rfl, hg1, hc1, hm1, hrow1, hb1⟩ := ho.shape
 have hlt1 := (hrow1.lt g1 rfl).2
 have HRow1 := Lh hrow1
 have HB1 := Lh hb1
 clear ho hrow1 hb1 hr' HN
 go_wp2_with fail
 go_ret
 have hs1 : Spans w1 (some ⟨g1, 0, none⟩) r'.length r' := Sl.of_own HRow1.out
 refine ⟨w1.heap.size, g1, c1, rfl, ⟨HB1.out.size, by simp, hg1, hlt1⟩, ?_, hs1.alloc _, HB1.out.alloc HB1.out.size _⟩
 have hb := heap_alloc_new w1 (.cells #[.slice (some ⟨g1, 0, none⟩) r'.length c1] 103)
 simp only [World.cell?, hb]
 rfl
theorem numsOf_take (x1 x2 : Int) (m : Nat) (hm : (m : Int) < x2 - x1 + 1) : (List.range (m + 1)).map (fun i : Nat => x1 + (i : Int)) = (List.range m).map (fun i : Nat => x1 + (i : Int)) ++ [x1 + (m : Int)] := by
 rw [List.range_succ, List.map_append]; rfl
theorem nums_done (r : List Sp) (k : Nat) (x1 x2 : Int) (h : r[k]? = some (x1, x2)) (m : Nat) (hm : (m : Int) = x2 - x1 + 1) : nums (r.take k) ++ (List.range m).map (fun i : Nat => x1 + (i : Int)) = nums (r.take (k + 1)) := by
 rw [take_snoc? h, nums_append]
 congr 1
 have e : m = (x2 - x1 + 1).toNat := by omega
 subst e
 simp [nums, numsOf]
theorem nums_part (r : List Sp) (k : Nat) (x1 x2 : Int) (h : r[k]? = some (x1, x2)) (m : Nat) (hm : (m : Int) ≤ x2 - x1 + 1) : nums (r.take k) ++ (List.range m).map (fun i : Nat => x1 + (i : Int)) <+: nums r := by
 have e : r = r.take k ++ (x1, x2) :: r.drop (k + 1) := by rw [← drop_cons? h, List.take_append_drop]
 have e2 : nums r = nums (r.take k) ++ (numsOf (x1, x2) ++ nums (r.drop (k + 1))) := by
  have := congrArg nums e
  rw [nums_append, nums_cons] at this
  exact this
 rw [e2]
 refine (List.prefix_append_right_inj _).2 (List.IsPrefix.trans ?_ (List.prefix_append _ _))
 unfold numsOf
 exact List.IsPrefix.map _ ⟨List.range' m ((x2 - x1 + 1).toNat - m), by rw [List.range_eq_range', List.range_eq_range']; have := List.range'_append_1 (s := 0) (m := m) (n := (x2 - x1 + 1).toNat - m); rw [Nat.zero_add] at this; rw [this]; congr 1; omega⟩
theorem each_in (F : Fence) (n : Nat) (hF : F.fn 249) (hro : F.round = none) (hn : 1 ≤ n) (l B0 B g c : Nat) (O : World → Nat → Prop) (hO : OnB B0 O) (r : List Sp) (hp : Plain r) (J Jx : List Int → World → Prop)
  (hY : ∀ pre x W, J pre W → pre ++ [x] <+: nums r → YieldAt F (n - 1) Tryz.prog l #[.int .i64 x] W fun e W' =>
   (e = .returned (.bool true) ∧ J (pre ++ [x]) W' ∧ KpO O W W') ∨ (e = .returned (.bool false) ∧ Jx (pre ++ [x]) W'))
  (W : World) (hJ : AbidesFrom W.heap.size J) (hBu : B0 ≤ W.heap.size) (hwf : ∀ k, O W k → k < W.heap.size) (hog : ¬ O W g) (hgW : g < W.heap.size)
  (hB : W.cell? ⟨B, 0, none⟩ = some (.slice (some ⟨g, 0, none⟩) r.length c)) (hS : Spans W (some ⟨g, 0, none⟩) r.length r) (h0 : J [] W) :
  CallsIn F n Tryz.prog 249 #[.func (.yield l) #[] #[], .pointer (some ⟨B, 0, none⟩)] W fun e W' => (∃ v, e = .returned v) ∧ ((∃ ys, ys = nums r ∧ J ys W') ∨ (∃ pre, pre <+: nums r ∧ Jx pre W')) := by
 have hlb := hp.len_le
 have HS := Lh hS
 have HWF := Lh hwf
 have HP := Lh hp
 have HY := Lh hY
 have HJ := Lh hJ
 clear hS hwf hp hY hJ
 refine callsIn_of_wp Tryz.func249 rfl hF ?_ hro
 simp only [Tryz.ntmps249, List.size_toArray, List.length_cons, List.length_nil, Nat.reduceAdd, Nat.reduceSub, Array.replicate_succ, Array.replicate_zero, List.push_toArray, List.append_toArray, List.nil_append, List.cons_append]
 gi_wp2
 gi_loopw [4, 5, 8] (fun _ _ i wr => ∃ k : Nat, k ≤ r.length ∧ i = .int .i64 k ∧ J (nums (r.take k)) wr ∧ W.heap.size ≤ wr.heap.size ∧ Hid ((∀ j, O wr j → j < wr.heap.size) ∧ ¬ O wr g ∧ Spans wr (some ⟨g, 0, none⟩) r.length r)) (fun _ _ i _ => r.length - (intOf i).toNat)
 case atStart => exact ⟨0, Nat.zero_le _, rfl, h0, Nat.le_refl _, Lh ⟨HWF.out, hog, HS.out⟩⟩
 case round =>
 obtain ⟨wq, rfl⟩ : ∃ wq : World, wq = wr := ⟨_, rfl⟩
 obtain ⟨k, hk, rfl, hJs, hsz, HH⟩ := hrel
 by_cases hlt : k < r.length
 ·obtain ⟨x, hx⟩ : ∃ x, r[k]? = some x := ⟨_, List.getElem?_eq_getElem hlt⟩
  have hxb := PlainF.spw HP.out (Int.le_refl _) x (List.mem_of_getElem? hx)
  have hcs := (HH.out.2.2).at_ hlt
  obtain ⟨bb, off, p, hbo, hp2, hc1, hc2⟩ := hcs
  obtain rfl : p = x := by rw [hx] at hp2; exact (Option.some.inj hp2).symm
  obtain ⟨x1, x2⟩ := p
  simp only at hxb hc1 hc2
  have hbo2 : bb = g ∧ off = 0 := by injection hbo with e; injection e with e1 e2; exact ⟨e1.symm, e2.symm⟩
  obtain ⟨rfl, rfl⟩ := hbo2
  simp only [Nat.zero_add] at hc1 hc2
  have HX := Lh hx
  have hgw := lt_of_cell hc1
  have hJ2 := HJ.out _ _ _ none hJs (World.grownBy_alloc wq (.cells #[.int .i64 x1, .int .i64 x2] 129) none) (fun r e => by cases e)
  clear hx hp2 hbo hJs
  obtain ⟨wo, hwo⟩ : ∃ wo : World, wq.alloc (.cells #[.int .i64 x1, .int .i64 x2] 129) = wo := ⟨_, rfl⟩
  have hbx : wo.cell? ⟨wq.heap.size, 1, none⟩ = some (.int .i64 x2) := by
   have hb := heap_alloc_new wq (.cells #[.int .i64 x1, .int .i64 x2] 129)
   rw [← hwo]; simp only [World.cell?, hb]; rfl
  have HI : Hid ((∀ j, O wo j → j < wo.heap.size) ∧ ¬ O wo bb ∧ Spans wo (some ⟨bb, 0, none⟩) r.length r ∧ ¬ O wo wq.heap.size) := by
   have hsame : ∀ j, O wo j ↔ O wq j := fun j => hO _ _ (fun k hk => by rw [← hwo]; exact Below.heap_alloc _ _ _ (by omega)) j
   refine ⟨fun j hj => ?_, fun h => HH.out.2.1 ((hsame _).1 h), hwo ▸ HH.out.2.2.alloc _, fun h => ?_⟩
   ·have := HH.out.1 j ((hsame j).1 hj); rw [← hwo]; simp; omega
   ·have := HH.out.1 _ ((hsame _).1 h); omega
  have hso : wo.heap.size = wq.heap.size + 1 := by rw [← hwo]; simp
  rw [hwo] at hJ2
  have HWO := Lh hwo
  clear hwo
  gi_wp2
  rw [HWO.out]
  gi_loopw [5] (fun i wr => ∃ m : Nat, (m : Int) ≤ x2 - x1 + 1 ∧ i = .int .i64 (x1 + m) ∧ J (nums (r.take k) ++ (List.range m).map (fun i : Nat => x1 + (i : Int))) wr ∧ wo.heap.size ≤ wr.heap.size ∧ wr.cell? ⟨wq.heap.size, 1, none⟩ = some (.int .i64 x2) ∧ Hid ((∀ j, O wr j → j < wr.heap.size) ∧ ¬ O wr bb ∧ Spans wr (some ⟨bb, 0, none⟩) r.length r ∧ ¬ O wr wq.heap.size)) (fun i _ => (x2 + 1 - intOf i).toNat)
  case atStart => exact ⟨0, by omega, by simp, by simpa using hJ2, Nat.le_refl _, hbx, HI⟩
  case round =>
  obtain ⟨m, hm, rfl, hJm, hsi, hbi, HM⟩ := hrel
  by_cases hlt2 : x1 + (m : Int) ≤ x2
  ·have hst := numsOf_take x1 x2 m (by omega)
   have hpre := nums_part r k x1 x2 HX.out (m + 1) (by omega)
   rw [hst, ← List.append_assoc] at hpre
   have HST := Lh hst
   have HPRE := Lh hpre
   obtain ⟨fn, tmps, assign, body, hy, hR⟩ := HY.out _ (x1 + (m : Int)) wr hJm (by simpa using hpre)
   clear hst hpre
   gi_wp2
   refine hR.mono ?_
   rintro e W3 (⟨rfl, hJ3, hk3⟩ | ⟨rfl, hJx3⟩)
   ·have hbw := Nat.lt_of_lt_of_le hgw (Nat.le_trans (by omega : wq.heap.size ≤ wo.heap.size) hsi)
    have hbx3 := hk3.cell ⟨wq.heap.size, 1, none⟩ _ hbi HM.out.2.2.2
    have HM3 : Hid ((∀ j, O W3 j → j < W3.heap.size) ∧ ¬ O W3 bb ∧ Spans W3 (some ⟨bb, 0, none⟩) r.length r ∧ ¬ O W3 wq.heap.size) := by
     refine ⟨hk3.wf HM.out.1, fun h => ?_, ⟨HM.out.2.2.1.1, fun h => ?_⟩, fun h => ?_⟩
     ·rcases hk3.own _ h with h1 | h1
      ·exact HM.out.2.1 h1
      ·omega
     ·obtain ⟨b, o, he, hc⟩ := HM.out.2.2.1.2 h
      refine ⟨b, o, he, fun j u hu => hk3.cell _ _ (hc j u hu) ?_⟩
      have e1 : bb = b := by injection he with e; injection e
      rw [← e1]; exact HM.out.2.1
     ·rcases hk3.own _ h with h1 | h1
      ·exact HM.out.2.2.2 h1
      ·omega
    have hs3 := hk3.size
    clear hk3
    gi_wp2
    go_roundw
    case rel => exact ⟨m + 1, by omega, by go_num, by rw [HST.out, ← List.append_assoc]; exact hJ3, by omega, hbx3, HM3⟩
    case measure => simp [intOf]; omega
   ·gi_wp2
    refine bodyPost_ret (results_none rfl _ _ _) rfl ?_
    exact ⟨⟨_, rfl⟩, .inr ⟨_, HPRE.out, hJx3⟩⟩
  ·obtain hme : (m : Int) = x2 - x1 + 1 := by omega
   have HN := Lh (nums_done r k x1 x2 HX.out m hme)
   clear hme
   gi_wp2
   refine ⟨⟨k + 1, by omega, by go_num, by rw [← HN.out]; exact hJm, by omega, Lh ⟨HM.out.1, HM.out.2.1, HM.out.2.2.1⟩⟩, by simp [intOf]; omega⟩
 ·have hd : decide (k < r.length) = false := by simpa using hlt
  obtain rfl : k = r.length := by omega
  gi_wp2
  go_end0
  exact ⟨⟨_, rfl⟩, .inl ⟨_, by rw [List.take_length], hJs⟩⟩
theorem each_stopsO (F : Fence) (n : Nat) (hF : F.fn 249) (hro : F.round = none) (hn : 1 ≤ n) (B0 B g c : Nat) (O : World → Nat → Prop) (hO : OnB B0 O) (r : List Sp) (hp : Plain r) (w : World) (hBu : B0 ≤ w.heap.size) (hwf : ∀ k, O w k → k < w.heap.size) (hog : ¬ O w g)
  (hB : w.cell? ⟨B, 0, none⟩ = some (.slice (some ⟨g, 0, none⟩) r.length c)) (hg : g < w.heap.size) (hS : Spans w (some ⟨g, 0, none⟩) r.length r) :
  SeqStopsK F n Tryz.prog 249 #[.pointer (some ⟨B, 0, none⟩)] (fun x : Int => #[Value.int .i64 x]) (KpO O) (fun ys => ys = nums r) (fun pre => pre <+: nums r) (nums r).length w := fun l J Jx W hW hJ _ hY h0 => by
 have hs : ∀ j, O W j ↔ O w j := hO _ _ fun k hk => hW.block k (by omega)
 exact each_in F n hF hro hn l B0 B g c O hO r hp J Jx (fun pre x W hJ hpx => hY pre x W hJ (by have := hpx.length_le; rw [List.length_append] at this; simp at this; omega)) W hJ (Nat.le_trans hBu hW.size) (fun k hk => Nat.lt_of_lt_of_le (hwf k ((hs k).1 hk)) hW.size) (fun h => hog ((hs g).1 h)) (Nat.lt_of_lt_of_le hg hW.size)
  ((hW.cell (lt_of_cell hB)).trans hB) (hS.below hW) h0
theorem each_stops (F : Fence) (n : Nat) (hF : F.fn 249) (hro : F.round = none) (hn : 1 ≤ n) (lo hi Bu B g c : Nat) (r : List Sp) (hp : Plain r) (w : World) (hBu : Bu < w.heap.size) (hwf : ∀ k, OwnB lo hi Bu w k → k < w.heap.size) (hog : ¬ OwnB lo hi Bu w g)
  (hB : w.cell? ⟨B, 0, none⟩ = some (.slice (some ⟨g, 0, none⟩) r.length c)) (hg : g < w.heap.size) (hS : Spans w (some ⟨g, 0, none⟩) r.length r) :
  SeqStopsK F n Tryz.prog 249 #[.pointer (some ⟨B, 0, none⟩)] (fun x : Int => #[Value.int .i64 x]) (KpB lo hi Bu) (fun ys => ys = nums r) (fun pre => pre <+: nums r) (nums r).length w :=
 each_stopsO F n hF hro hn w.heap.size B g c (OwnB lo hi Bu) (ownB_on hBu) r hp w (Nat.le_refl _) hwf hog hB hg hS
end
section
open Go.Shelf
attribute [local go_sem] Oper.semAt_some
def noDefer (o : Oper) : Bool := match o.op with | .defer _ => false | _ => true
theorem noDefer.spec {o : Oper} (h : noDefer o = true) : ∀ c, o.op ≠ .defer c := by
 intro c e
 unfold noDefer at h
 rw [e] at h
 cases h
theorem rows_in {P : Program} {row : String} {args : Array Value} {w : World} {R : Value → World → Prop} (l n : Nat) (h : Rows P row args w R) : RowsIn (Fence.wide.inRound l) n P row args w R :=
 fun c cs _ => let ⟨v, w', r, s⟩ := h c cs; ⟨v, w', r, stepsIn_wide.2 s⟩
theorem oper_round {P : Program} {o : Oper} {a : Act} {w : World} {K : Act → World → Prop} {Q : Exit → Act → World → Prop} (l n : Nat) (hnd : ∀ c, o.op ≠ .defer c) (h : o.wp P a w K Q) :
  o.wpIn (Fence.wide.inRound l) n P a w K Q := by
 refine ⟨fun f _ => trivial, ?_⟩
 rw [show (Fence.wide.inRound l).round = some l from rfl, Oper.semAt_some l _ _ hnd]
 unfold Oper.wp at h
 generalize (execOp a.eval o).run P w = r at *
 cases r with
 | ok x w' =>
  cases x <;> simp only [Oper.upon, Oper.uponIn] at h ⊢
  all_goals first
   | exact h
   | exact CallsIn.inRound l (callsIn_wide.2 h)
   | exact rows_in l _ h
   | (refine ⟨?_, CallsIn.inRound l (callsIn_wide.2 h)⟩; simp [Fence.wide])
   | (refine ⟨?_, rows_in l _ h⟩; simp [Fence.wide])
 | halt x w' => cases x <;> simp only [Oper.upon, Oper.uponIn] at h ⊢ <;> exact h
theorem ops_round {P : Program} {ops : Array Oper} {Q : Exit → Act → World → Prop} (l n : Nat) (hnd : ops.all noDefer = true) (hQ : ∀ a w, ¬ Q .outgrown a w) (L : List Nat) :
  ∀ (a : Act) (w : World), wpOps P ops Q L a w → wpOpsIn (Fence.wide.inRound l) n P ops Q L a w := by
 induction L with
 | nil => exact fun a w h => h
 | cons i L ih =>
  intro a w h
  simp only [wpOps] at h
  simp only [wpOpsIn]
  cases ho : ops[i]? with
  | none => rw [ho] at h; exact ih _ _ h
  | some o =>
   rw [ho] at h
   simp only at h ⊢
   have hd : noDefer o = true := by
    obtain ⟨hi, he⟩ := Array.getElem?_eq_some_iff.1 ho
    exact he ▸ (Array.all_eq_true.1 hnd) i hi
   split at h
   ·rename_i hw
    rw [if_pos hw]
    rcases h with h | ⟨_, a', w', h⟩
    ·exact Oper.wpIn_mono (fun a w => ih a w) (oper_round l n (noDefer.spec hd) h)
    ·exact absurd h (hQ a' w')
   ·rename_i hw
    rw [if_neg hw]
    exact ⟨fun f _ => trivial, ih _ _ h⟩
theorem region_round {P : Program} {id : Nat} {ops : Array Oper} {Q : Exit → Act → World → Prop} {a : Act} {w : World} {l n : Nat} (hnd : ops.all noDefer = true) (hQ : ∀ a w, ¬ Q .outgrown a w) (hm : P.follows .mixedOrders = true)
  (h : wpAny P .any ops Q ops.size (Array.replicate ops.size false) a { w with drawn := w.drawn + 1 }) : (Code.region id ops true).wpIn (Fence.wide.inRound l) n P Q a w :=
 wpIn_region_draw fun t => by
  simp only [Region.schedule, hm, Bool.true_or, if_true]
  exact ops_round l n hnd hQ _ _ _ (wpAny_sound ops.size t _ a _ h)
theorem region_round_held {P : Program} {id : Nat} {ops : Array Oper} {Q : Exit → Act → World → Prop} {a : Act} {w : World} {l n : Nat} (hnd : ops.all noDefer = true) (hQ : ∀ a w, ¬ Q .outgrown a w) (hm : P.follows .mixedOrders = true)
  (S : World → Prop) (hS : S w.drew) (h : S w.drew → wpAnyH P .any ops Q S ops.size (Array.replicate ops.size false) a w.drew) : (Code.region id ops true).wpIn (Fence.wide.inRound l) n P Q a w :=
 region_round hnd hQ hm (wpAny_of_held _ _ _ _ (h hS))
theorem wp_rangeFunc {P : Program} {α : Type} {g : Operand} {ps : Array Tmp} {assign body : Code} {Q : Exit → Act → World → Prop} {a : Act} {w : World}
  {gf : Nat} {lb : Array Value} (hg : a.eval g = .func (.func gf) #[] lb) (eg : ∀ args w, (callFunc gf args).run P w = .ok (.enter gf args) w)
  {encs : α → Array Value} {Kp : World → World → Prop} {S Sp : List α → Prop} {N : Nat} (hseq : SeqStopsK Fence.wide 7 P gf lb encs Kp S Sp N w)
  (hKt : ∀ {A B C : World}, Kp A B → Kp B C → Kp A C) (hKb : ∀ (W : World) (l : Nat) (o o' : Obj), w.heap.size ≤ l → W.heap[l]? = some o → o.isCells = false → o.isWalk = false → Kp W (W.putObj l o')) (hps : ∀ x, (encs x).size = ps.size)
  (I : List α → World → Prop) (Ix : Code → List α → World → Prop) (hI : OwnFrom w.heap.size I) (hIx : ∀ c, OwnFrom w.heap.size (Ix c)) (h0 : I [] w) (a₁ : α → Act)
  (hassign : ∀ (l : Nat) (x : α) (W : World) (K : Act → World → Prop), K (a₁ x) W →
   assign.wpIn (Fence.wide.inRound l) 6 P (Exit.then K (fun _ _ _ => False)) { tmps := (ps.zip (encs x)).foldl (fun t (p, v) => t.setIfInBounds p v) a.tmps, defers := [] } W)
  (hbody : ∀ (l : Nat) (pre : List α) (x : α) (W : World), I pre W → pre.length < N → body.wpIn (Fence.wide.inRound l) 6 P (ownPostK Kp I Ix (pre ++ [x]) W) (a₁ x) W)
  (hdone : ∀ (D : Nat) (xs : List α) (W : World), w.heap.size ≤ D → S xs → I xs W → W.heap[D]? = some (.deferred (some [])) → Q .normal { a with defers := { target := .collected D, args := #[] } :: a.defers } W)
  (hstop : ∀ (D : Nat) (c : Code) (pre : List α) (W : World), w.heap.size ≤ D → Sp pre → Ix c pre W → W.heap[D]? = some (.deferred (some [])) → c.wp P Q { a with defers := { target := .collected D, args := #[] } :: a.defers } W) :
  (Code.rangeFunc g ps assign body).wp P Q a w :=
 (wpIn_wide (n := 8)).1 (wpIn_rangeFunc_ownF (F := Fence.wide) rfl (by omega) hg trivial eg hseq hKt hKb (Below.refl _ _) hps I Ix hI hIx h0 a₁ hassign hbody hdone
  (fun D c pre W h1 h2 h3 h4 => (wpIn_wide (n := 8)).2 (hstop D c pre W h1 h2 h3 h4)))
theorem cellAlloc {w : World} (o : Obj) {p : Addr} {v : Value} (h : w.cell? p = some v) : (w.alloc o).cell? p = some v := (World.cell?_alloc_lt w o p (World.block_lt_of_cell? w p h)).trans h
theorem KpB.pushed {lo hi Bu : Nat} {W w0 W3 : World} {A A' : Option Addr} {n c n' c' base : Nat} {xs ys : List Value} (h1 : lo ≤ Bu) (h2 : Bu < hi) (hv : W.cell? ⟨Bu, 0, none⟩ = some (.slice A n c))
  (hb : Below W.heap.size W w0) (ho0 : w0.ownsRow base 129 2 (.slice A n c) n ys) (hg : w0.grownBy W3 (Value.ownBlock (.slice A n c)))
  (hat : Value.ownBlock (.slice A' n' c') = Value.ownBlock (.slice A n c) ∨ Value.ownBlock (.slice A' n' c') = some w0.heap.size)
  (ho : W3.ownsRow base 129 2 (.slice A' n' c') n' xs) (hbase : hi ≤ base) :
  KpB lo hi Bu W (W3.setCell ⟨Bu, 0, none⟩ (.slice A' n' c')) ∧ (W3.setCell ⟨Bu, 0, none⟩ (.slice A' n' c')).cell? ⟨Bu, 0, none⟩ = some (.slice A' n' c') ∧ (W3.setCell ⟨Bu, 0, none⟩ (.slice A' n' c')).ownsRow base 129 2 (.slice A' n' c') n' xs := by
 have hBu := lt_of_cell hv
 have hs1 := hb.size
 have hs2 := hg.size
 have hne : some Bu ≠ Value.ownBlock (.slice A n c) := fun e => by have := ho0.lt Bu e.symm; omega
 have hcB : W3.cell? ⟨Bu, 0, none⟩ = some (.slice A n c) := (World.cell?_of_block (hg.block Bu (by omega) hne)).trans ((hb.cell (p := ⟨Bu, 0, none⟩) hBu).trans hv)
 have hc4 : (W3.setCell ⟨Bu, 0, none⟩ (.slice A' n' c')).cell? ⟨Bu, 0, none⟩ = some (.slice A' n' c') := World.cell?_setCell_same' _ _ _ (by rw [hcB]; rfl)
 have hsz : (W3.setCell ⟨Bu, 0, none⟩ (.slice A' n' c')).heap.size = W3.heap.size := by simp
 have key : ∀ k, OwnB lo hi Bu (W3.setCell ⟨Bu, 0, none⟩ (.slice A' n' c')) k → OwnB lo hi Bu W k ∨ (k = w0.heap.size ∧ k < W3.heap.size) := by
  rintro k (h | ⟨off, m, d, h⟩)
  ·exact .inl (.inl h)
  ·rw [hc4] at h
   injection h with h
   injection h with e1 e2 e3
   subst e1
   have hlt := (ho.lt k rfl).2
   rcases hat with h | h
   ·left; right
    rcases ho0.2 with ⟨e, _⟩ | ⟨g, cap, cur, e, _⟩
    ·injection e with e1; subst e1; simp [Value.ownBlock] at h
    ·injection e with e1 e4 e5
     subst e1
     simp [Value.ownBlock] at h
     subst h
     exact ⟨0, n, c, hv⟩
   ·right
    simp [Value.ownBlock] at h
    exact ⟨h, hlt⟩
 refine ⟨⟨by rw [hsz]; omega, fun p u hu hno => ?_, fun k hk => ?_, fun hw k hk => ?_⟩, hc4, ?_⟩
 ·have hp := World.block_lt_of_cell? W p hu
  have hpB : Bu ≠ p.block := fun e => hno (.inl (by omega))
  have hpo : some p.block ≠ Value.ownBlock (.slice A n c) := by
   intro e
   refine hno (.inr ?_)
   rcases ho0.2 with ⟨e', _⟩ | ⟨g, cap, cur, e', _⟩
   ·injection e' with e1; subst e1; simp [Value.ownBlock] at e
   ·injection e' with e1 e4 e5
    subst e1
    simp [Value.ownBlock] at e
    rw [e]
    exact ⟨0, n, c, hv⟩
  rw [World.cell?_setCell_far _ _ _ _ hpB]
  exact hg.cell ((hb.cell hp).trans hu) hpo
 ·rcases key k hk with h | h
  ·exact .inl h
  ·right; omega
 ·rw [hsz]
  rcases key k hk with h | h
  ·have := hw k h; omega
  ·exact h.2
 ·exact ownsRow_setCell_below ho (a := ⟨Bu, 0, none⟩) (by show Bu < base; omega) _
end
section
open Go.Shelf
def waitsOn (md : Region.Mode) (ops : Array Oper) (z i : Nat) : Bool := ((ops[z]?).map fun o => o.after.any fun e => Region.binds md e && e.on == i).getD false
def wpAnyZ (P : Program) (md : Region.Mode) (ops : Array Oper) (Q : Exit → Act → World → Prop) (S : World → Prop) (z : Nat) : Nat → Array Bool → Act → World → Prop
 | 0, listed, a, w => Region.ready md ops listed = [] ∧ Q .normal a w
 | fuel + 1, listed, a, w => (Region.ready md ops listed = [] → Q .normal a w) ∧
  ∀ i ∈ Region.ready md ops listed, wpOp P ops Q i (fun a' w' => (i = z ∨ S w') ∧ wpAnyZ P md ops Q S z fuel (listed.setIfInBounds i true) a' w') a w
section
variable {P : Program} {ops : Array Oper} {Q : Exit → Act → World → Prop} {md : Region.Mode} {S : World → Prop} {z : Nat}
theorem wpAny_of_Z : ∀ (fuel : Nat) (listed : Array Bool) (a : Act) (w : World), wpAnyZ P md ops Q S z fuel listed a w → wpAny P md ops Q fuel listed a w
 | 0, _, _, _, h => h
 | fuel + 1, _, _, _, h => ⟨h.1, fun i hi => wpOp_mono (fun a' w' h' => wpAny_of_Z fuel _ a' w' h'.2) (h.2 i hi)⟩
theorem waits_not {i : Nat} {oz : Oper} (h : waitsOn md ops z i = true) (hz : ops[z]? = some oz) (hn : ∀ e ∈ oz.after, Region.binds md e = true → e.on ≠ i) : False := by
 unfold waitsOn at h
 rw [hz] at h
 simp only [Option.map_some, Option.getD_some] at h
 rw [Array.any_eq_true'] at h
 obtain ⟨e, he, hb⟩ := h
 rw [Bool.and_eq_true, beq_iff_eq] at hb
 exact hn e he hb.1 hb.2
theorem wpAnyZ_first {i : Nat} {oi : Oper} {v : Value} (hi : ops[i]? = some oi) (hsel : ∀ (j : Nat) (o : Oper) cs b, ops[j]? = some o → o.op ≠ .select cs b)
  (hQ : ∀ c a w, Q (.panic c) (a.put oi.dst v) w → Q (.panic c) a w) (hw : waitsOn md ops z i = true) :
  ∀ (fuel : Nat) (listed : Array Bool) (a : Act) (w : World),
   (∀ j oj, ops[j]? = some oj → j ≠ i → listed.getD j true = false → (∀ e ∈ oj.after, Region.binds md e = true → e.on ≠ i) → oi.apart ops oj = true) →
   i ∈ Region.ready md ops listed → YieldsIf P ops S oi v a → S w →
   wpAnyZ P md ops Q S z fuel (listed.setIfInBounds i true) (a.put oi.dst v) w → wpAnyZ P md ops Q S z (fuel + 1) listed a w := by
 intro fuel
 induction fuel with
 | zero =>
  intro listed a w _ hr hy hS H
  refine ⟨fun h => absurd hr (by rw [h]; exact List.not_mem_nil), fun j hj => ?_⟩
  by_cases hji : j = i
  ·subst hji; exact hy.wpOp hi hS ⟨.inr hS, H⟩
  ·have h1 := ready_mono hj hji
   rw [H.1] at h1
   exact absurd h1 List.not_mem_nil
 | succ fuel ih =>
  intro listed a w hfree hr hy hS H
  refine ⟨fun h => absurd hr (by rw [h]; exact List.not_mem_nil), fun j hj => ?_⟩
  by_cases hji : j = i
  ·subst hji; exact hy.wpOp hi hS ⟨.inr hS, H⟩
  have h1 := H.2 j (ready_mono hj hji)
  obtain ⟨hun, oj, hoj, hall⟩ := mem_ready.1 hj
  have hi0 := (mem_ready.1 hr).1
  have hnot : ∀ e ∈ oj.after, Region.binds md e = true → e.on ≠ i := fun e he hb heq => by
   have h2 := hall e he hb
   rw [heq] at h2
   rcases Nat.lt_or_ge i listed.size with hl | hl
   ·simp [hl] at hi0 h2; rw [hi0] at h2; cases h2
   ·simp [Array.getElem?_eq_none hl] at h2
  have hjz : j ≠ z := fun e => by subst e; exact waits_not hw hoj hnot
  have h2 := wpOp_putIf hoj (hfree j oj hoj hji hun hnot) (fun cs b => hsel i oi cs b hi) (fun cs b => hsel j oj cs b hoj) hQ hy h1
  have hfree2 : ∀ k ok, ops[k]? = some ok → k ≠ i → (listed.setIfInBounds j true).getD k true = false → (∀ e ∈ ok.after, Region.binds md e = true → e.on ≠ i) → oi.apart ops ok = true := fun k ok hk hki hu hno => by
   refine hfree k ok hk hki ?_ hno
   by_cases hjk : j = k
   ·subst hjk; exact hun
   ·rw [getD_set_ne true hjk] at hu; exact hu
  refine wpOp_mono (fun a' w' h3 => ?_) h2
  have hS3 := h3.2.1.resolve_left hjz
  refine ⟨.inr hS3, ih (listed.setIfInBounds j true) a' w' hfree2 (ready_mono hr (Ne.symm hji)) h3.1 hS3 ?_⟩
  rw [Array.setIfInBounds_comm _ _ hji]
  exact h3.2.2
theorem wpAnyZ_take {i : Nat} {oi : Oper} {v : Value} {fuel : Nat} {listed : Array Bool} {a : Act} {w : World} (hi : ops[i]? = some oi)
  (hs : Region.noSelect ops = true) (hf : Region.free md ops listed i = true) (hr : (Region.ready md ops listed).contains i = true) (hw : waitsOn md ops z i = true)
  (hQ : ∀ c a w, Q (.panic c) (a.put oi.dst v) w → Q (.panic c) a w) (hy : YieldsIf P ops S oi v a) (hS : S w)
  (h : wpAnyZ P md ops Q S z fuel (listed.setIfInBounds i true) (a.put oi.dst v) w) : wpAnyZ P md ops Q S z (fuel + 1) listed a w :=
 wpAnyZ_first hi (Region.noSelect_spec hs) hQ hw fuel listed a w (Region.free_spec hi hf) (by simpa using hr) hy hS h
theorem wpAnyZ_ready {i : Nat} {fuel : Nat} {listed : Array Bool} {a : Act} {w : World} {o : Oper} (hr : Region.ready md ops listed = [i]) (ho : ops[i]? = some o)
  (h : ∀ K' : Act → World → Prop, Shut (∀ a w, S w → (S w → wpAnyZ P md ops Q S z fuel (listed.setIfInBounds i true) a w) → K' a w) → if Region.wanted o (yielded ops a.tmps) = true then Oper.wp P o a w K' Q else K' (a.put o.dst undef) w) :
  wpAnyZ P md ops Q S z (fuel + 1) listed a w :=
 ⟨fun h0 => absurd (hr.symm.trans h0) (by simp), by
  rw [hr]
  intro j hj
  rcases List.mem_singleton.1 hj with rfl
  exact wpOp_step ho (fun K' hK => h K' (fun a w hS hW => hK a w ⟨.inr hS, hW hS⟩))⟩
theorem wpAnyZ_last {i : Nat} {fuel : Nat} {listed : Array Bool} {a : Act} {w : World} {o : Oper} (hz : i = z) (hr : Region.ready md ops listed = [i]) (hr2 : Region.ready md ops (listed.setIfInBounds i true) = []) (ho : ops[i]? = some o)
  (h : ∀ K' : Act → World → Prop, Shut (∀ a w, Q .normal a w → K' a w) → if Region.wanted o (yielded ops a.tmps) = true then Oper.wp P o a w K' Q else K' (a.put o.dst undef) w) :
  wpAnyZ P md ops Q S z (fuel + 1) listed a w :=
 ⟨fun h0 => absurd (hr.symm.trans h0) (by simp), by
  rw [hr]
  intro j hj
  rcases List.mem_singleton.1 hj with rfl
  refine wpOp_step ho (fun K' hK => h K' (fun a w hq => hK a w ⟨.inl hz, ?_⟩))
  cases fuel with
  | zero => exact ⟨hr2, hq⟩
  | succ n => exact ⟨fun _ => hq, by rw [hr2]; intro k hk; exact absurd hk List.not_mem_nil⟩⟩
theorem wp_region_Z {id : Nat} {a : Act} {w : World} (z : Nat) (hm : P.follows .mixedOrders = true) (S : World → Prop) (hS : S w.drew)
  (h : S w.drew → wpAnyZ P .any ops Q S z ops.size (Array.replicate ops.size false) a w.drew) : (Code.region id ops true).wp P Q a w :=
 wp_region_any hm (wpAny_of_Z _ _ _ _ (h hS))
end
theorem zt {P : Program} {md : Region.Mode} {ops : Array Oper} {Q : Exit → Act → World → Prop} {S : World → Prop} {z : Nat} (i : Nat) {oi : Oper} {v : Value} {fuel : Nat} {listed : Array Bool} {a : Act} {w : World} (hi : ops[i]? = some oi)
  (hy : ∀ w, S w → (execOp a.eval oi).run P w = .ok (.value v) w) (h : wpAnyZ P md ops Q S z fuel (listed.setIfInBounds i true) (a.put oi.dst v) w)
  (hs : Region.noSelect ops = true := by kernel_rfl) (hf : Region.free md ops listed i = true := by kernel_rfl) (hr : (Region.ready md ops listed).contains i = true := by kernel_rfl) (hw : waitsOn md ops z i = true := by kernel_rfl)
  (hQ : ∀ c a w, Q (.panic c) (a.put oi.dst v) w → Q (.panic c) a w := by exact fun _ _ _ h => h) (hwt : Region.wanted oi (yielded ops a.tmps) = true := by first | kernel_rfl | rfl) (hS : S w := by assumption) : wpAnyZ P md ops Q S z (fuel + 1) listed a w :=
 wpAnyZ_take hi hs hf hr hw hQ (.inl ⟨hwt, hy⟩) hS h
theorem zr {P : Program} {md : Region.Mode} {ops : Array Oper} {Q : Exit → Act → World → Prop} {S : World → Prop} {z : Nat} (i : Nat) {fuel : Nat} {listed : Array Bool} {a : Act} {w : World} {o : Oper} (ho : ops[i]? = some o)
  (h : ∀ K' : Act → World → Prop, Shut (∀ a w, S w → (S w → wpAnyZ P md ops Q S z fuel (listed.setIfInBounds i true) a w) → K' a w) → if Region.wanted o (yielded ops a.tmps) = true then Oper.wp P o a w K' Q else K' (a.put o.dst undef) w) (hr : Region.ready md ops listed = [i] := by kernel_rfl) : wpAnyZ P md ops Q S z (fuel + 1) listed a w :=
 wpAnyZ_ready hr ho h
end
end Go.Proofs.YtlmkokeapbleoaaGreat
