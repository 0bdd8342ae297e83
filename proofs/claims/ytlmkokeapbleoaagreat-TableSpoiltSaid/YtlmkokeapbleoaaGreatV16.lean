/- Contracts and plain laws that the proof leans on. Condition: as each theorem says. -/
import Derived.Test.YtlmkokeapbleoaaGreatV15
import Derived.Deep.RegionHeld3
import Derived.Deep.DeepCutAuto
import Derived.Lib.MinMax
import Derived.Deep.QuietTactic
import Derived.Test.YtlmkokeapbleoaaGreatV14
import Derived.Test.YtlmkokeapbleoaaGreatV01
import Derived.Deep.CutBlock
set_option maxRecDepth 100000
set_option maxHeartbeats 64000000
set_option linter.unusedVariables false
set_option linter.unusedSimpArgs false
namespace Go.Proofs.YtlmkokeapbleoaaGreat
open Go.RowKit
section
def TabBox (b : Nat) (cs : Array Value) (W : World) : Prop := W.heap[b]? = some (.cells cs 49 (0, 0))
theorem TabBox.below {b : Nat} {cs : Array Value} {W W' : World} (h : TabBox b cs W) (hb : Below W.heap.size W W') : TabBox b cs W' :=
 (hb.block b (by unfold TabBox at h; exact (Array.getElem?_eq_some_iff.1 h).1)).trans h
theorem TabBox.cell {b : Nat} {cs : Array Value} {W : World} (h : TabBox b cs W) (i : Nat) : W.cell? ⟨b, i, none⟩ = cs[i]? := by
 unfold TabBox at h; simp [World.cell?, h]
theorem TabBox.cell1 {b : Nat} {cs : Array Value} {W : World} (h : TabBox b cs W) {i : Nat} {v : Value} (hv : cs[i]? = some v) : W.cell? ⟨b, i, none⟩ = some v := (h.cell i).trans hv
theorem St.tbox {w0 w : World} {F : World → Prop} (hK : Hid (St w0 w F)) (cs : Array Value) : Hid (St w0 (w.alloc (.cells cs 49)) (fun W => TabBox w.heap.size cs W ∧ F W)) :=
 Lh (hK.out.add ((Below.refl _ _).alloc (Nat.le_refl _) _) fun W hW => TabBox.below (heap_alloc_new w _) hW)
theorem nodesL_at {T : TabI} {j : Nat} {q : NodeI} (h : T.ns[j]? = some q) : T.L.nodes[j]? = some q.L := by
 show (T.ns.map NodeI.L)[j]? = _
 rw [List.getElem?_map, h]; rfl
theorem actsL_at {T : TabI} {j : Nat} {q : ActI} (h : T.acts[j]? = some q) : T.L.acts[j]? = some q.L := by
 show (T.acts.map ActI.L)[j]? = _
 rw [List.getElem?_map, h]; rfl
theorem endsL_at {T : TabI} {j : Nat} {q : OutI} (h : T.es[j]? = some q) : T.L.ends[j]? = some q.L := by
 show (T.es.map OutI.L)[j]? = _
 rw [List.getElem?_map, h]; rfl
theorem nodesL_len (T : TabI) : T.L.nodes.length = T.ns.length := List.length_map _
theorem actsL_len (T : TabI) : T.L.acts.length = T.acts.length := List.length_map _
theorem endsL_len (T : TabI) : T.L.ends.length = T.es.length := List.length_map _
def NextsTo (T : TabL) (h : Int) (l : List Int) (k : Nat) : Prop := ∀ x ∈ l.take k, NextOk T h x
theorem NextsTo.all {T : TabL} {h : Int} {l : List Int} (H : NextsTo T h l l.length) : ∀ x ∈ l, NextOk T h x := fun x hx => H x (by rwa [List.take_length])
theorem NextsTo.next {T : TabL} {h : Int} {l : List Int} {k : Nat} {x : Int} (H : NextsTo T h l k) (hx : l[k]? = some x) (hi : NextOk T h x) : NextsTo T h l (k + 1) := fun q hq => by
 rw [take_snoc? hx] at hq
 rcases List.mem_append.1 hq with hq | hq
 ·exact H q hq
 ·simp at hq; subst hq; exact hi
def EndOk (T : TabL) (h e : Int) : Prop := 0 ≤ e → ∃ l, T.ends[e.toNat]? = some l ∧ TermsOk h l
theorem next_at {T : TabL} {h : Int} {j : Nat} {q : NodeL} (hq : T.nodes[j]? = some q) (hx : NextOk T h (j : Int)) : q.held = h + 1 := by
 rcases hx with hx | ⟨_, ⟨_, n, hn, h1⟩ | ⟨h1, _⟩⟩
 ·omega
 ·rw [Int.toNat_natCast, hq] at hn; injection hn with hn; subst hn; exact h1
 ·omega
theorem next_act {T : TabL} {h x : Int} {j : Nat} {a : ActL} (hj : -2 - x = (j : Int)) (ha : T.acts[j]? = some a) (hx : NextOk T h x) : a.eat ≤ h + 1 ∧ TermsOk (h + 1) a.out := by
 rcases hx with hx | ⟨_, ⟨h1, _⟩ | ⟨_, n, hn, h1⟩⟩
 ·omega
 ·omega
 ·rw [hj, Int.toNat_natCast, ha] at hn; injection hn with hn; subst hn; exact h1
section
variable {w0 w : World} {F : World → Prop}
theorem node_st (hK : Hid (St w0 w F)) (cs : Array Value) (T : TabI) (hC : TabC cs T) (ht : ∀ W, F W → TabW T W) (n : NodeI) (hn : ∀ W, F W → NodeW n W) (k : Nat) (v : Bool) (hv : Hid (pB (NodeOk T.L k n.L) = v))
  (hl1 : T.ns.length ≤ 4096) (hl2 : T.acts.length ≤ 4096) (hl3 : T.es.length ≤ 4096) (hl4 : k ≤ 256) :
  Calls Tryz.prog 88 #[.agg cs, .agg #[.int .i64 n.h, .slice n.na n.nx.length n.nc, .int .i64 n.e], .int .i64 k] w (RetV w0 (.bool v) F) := by
 have HT := Lh ht
 have HN := Lh hn
 have h258 := hC.c3
 have h257 := hC.c2
 have h256 := hC.c1
 have HK1 := St.tbox hK cs
 have HK := St.box HK1 [.int .i64 n.h, .slice n.na n.nx.length n.nc, .int .i64 n.e] 64
 have hz : (w.alloc (.cells cs 49)).heap.size = w.heap.size + 1 := by simp
 rw [hz] at HK
 clear ht hn hz HK1
 obtain ⟨hd0, na, nc, nx, e⟩ := n
 simp only at HK ⊢
 have hres : ∀ W, Hid (St w0 W (fun W => BoxC (w.heap.size + 1) [.int .i64 hd0, .slice na nx.length nc, .int .i64 e] W ∧ TabBox w.heap.size cs W ∧ F W)) → Hid (St w0 W F) := fun W h => Lh (h.out.weaken fun _ h => h.2.2)
 have HRES := Lh hres
 clear hres
 by_cases b1 : 0 ≤ hd0
 case neg =>
  obtain rfl := pB_f hv (fun H => b1 H.1.1)
  go_enter Tryz.func88, Tryz.ntmps88
  go_wp2_with fail
  go_ret
  exact ⟨rfl, HRES.out _ HK⟩
 by_cases b2 : hd0 ≤ 4
 case neg =>
  obtain rfl := pB_f hv (fun H => b2 H.1.2.1)
  go_enter Tryz.func88, Tryz.ntmps88
  go_wp2_with fail
  go_ret
  exact ⟨rfl, HRES.out _ HK⟩
 by_cases b3 : (nx.length : Int) = k
 case neg =>
  obtain rfl := pB_f hv (fun H => b3 (by have := H.1.2.2.1; exact_mod_cast this))
  go_enter Tryz.func88, Tryz.ntmps88
  go_wp2_with fail
  go_ret
  exact ⟨rfl, HRES.out _ HK⟩
 obtain rfl : nx.length = k := by omega
 by_cases b4 : -1 ≤ e
 case neg =>
  obtain rfl := pB_f hv (fun H => b4 H.1.2.2.2.1)
  clear b3
  go_enter Tryz.func88, Tryz.ntmps88
  go_wp2_with fail
  go_ret
  exact ⟨rfl, HRES.out _ HK⟩
 by_cases b5 : e < (T.es.length : Int)
 case neg =>
  obtain rfl := pB_f hv (fun H => b5 (by have := H.1.2.2.2.2; rw [endsL_len] at this; exact this))
  clear b3
  go_enter Tryz.func88, Tryz.ntmps88
  go_wp2_with fail
  go_ret
  exact ⟨rfl, HRES.out _ HK⟩
 have HHD : Hid (NodeHead T.L nx.length ⟨hd0, nx, e⟩) := Lh ⟨b1, b2, rfl, b4, by rw [endsL_len]; exact b5⟩
 clear b3
 go_enter Tryz.func88, Tryz.ntmps88
 go_wp2_with fail
 have q3 := HK.out.now.2.1.cell1 h258
 obtain ⟨q0, q1, q2⟩ := HK.out.now.1.c3
 go_cut [52] (fun s wr => ∃ b : Bool, s = .bool b ∧ Hid ((b = true ∧ v = false) ∨ (b = false ∧ EndOk T.L hd0 e)) ∧ Hid (St w0 wr (fun W => BoxC (w.heap.size + 1) [.int .i64 hd0, .slice na nx.length nc, .int .i64 e] W ∧ TabBox w.heap.size cs W ∧ F W)))
 case first =>
  by_cases b6 : 0 ≤ e
  ·obtain ⟨j, rfl⟩ := Int.eq_ofNat_of_zero_le b6
   have b5' : j < T.es.length := by omega
   obtain ⟨eb, eo, o, hA, ho, how, hec⟩ := (HT.out _ HK.out.now.2.2).ends.at_ b5'
   have g258 := h258
   rw [hA] at g258 q3
   have HO := Lh ho
   have HK := Lh (HK.out.add (Below.refl _ _) (G := fun W => W.cell? ⟨eb, eo + j, none⟩ = some (.slice o.a o.l.length o.c) ∧ OutW o W) (fun W hW => ⟨(hW.cell (p := ⟨eb, eo + j, none⟩) (lt_of_cell hec)).trans hec, OutW.stays _ _ _ how hW⟩))
   have HK := St.hdrewN HK 1
   clear ho how
   obtain ⟨z, hz, hzv⟩ : ∃ z : Bool, pB (TermsOk hd0 (o.l.map TermI.L)) = z ∧ Hid ((!z) = true ∧ v = false ∨ (!z) = false ∧ EndOk T.L hd0 (j : Int)) := by
    by_cases a2 : TermsOk hd0 (o.l.map TermI.L)
    ·exact ⟨true, pB_true a2, Lh (.inr ⟨rfl, fun _ => ⟨_, endsL_at HO.out, a2⟩⟩)⟩
    ·refine ⟨false, pB_false a2, Lh (.inl ⟨rfl, pB_f hv fun H => a2 ?_⟩)⟩
     obtain ⟨l, h1, h2⟩ := H.2.1 b6
     have h3 := endsL_at HO.out
     have h1' : T.L.ends[j]? = some l := h1
     rw [h1'] at h3; injection h3 with h3; subst h3; exact h2
   have H2 := Lh hz
   clear hz b5
   go_region_held3 (fun W => W.cell? ⟨w.heap.size + 1, 2, none⟩ = some (.int .i64 j) ∧ W.cell? ⟨w.heap.size + 1, 0, none⟩ = some (.int .i64 hd0) ∧ W.cell? ⟨w.heap.size, 258, none⟩ = some (.slice (some ⟨eb, eo, none⟩) T.es.length T.ec) ∧ W.cell? ⟨eb, eo + j, none⟩ = some (.slice o.a o.l.length o.c))
    (first | exact ⟨HK.out.now.2.1 2 _ rfl, HK.out.now.2.1 0 _ rfl, HK.out.now.2.2.1.cell1 g258, HK.out.now.1.1⟩ | go_keep)
    ((go_at_call 132; refine (right_st HK (fun _ h => h.1.2) o.c hd0 z H2).mono ?_; rintro e5 w5 ⟨rfl, HK⟩))
   go_wp2_with fail
   go_meet
   exact ⟨!z, rfl, hzv, Lh (HK.out.weaken fun _ h => h.2)⟩
  ·have hg : decide (0 ≤ e) = false := decide_eq_false b6
   have HEN : Hid (EndOk T.L hd0 e) := Lh (fun h => absurd h b6)
   go_quiet (fail)
   go_wp2_with fail
   go_meet
   exact ⟨false, rfl, Lh (.inr ⟨rfl, HEN.out⟩), St.hdrewN HK nq⟩
 case rest =>
 clear HK q0 q1 q2 q3
 obtain ⟨b, rfl, hb, HK⟩ := hcut
 rcases hb.out with ⟨rfl, rfl⟩ | ⟨rfl, hen⟩
 ·clear hb
  go_wp2_with fail
  go_ret
  exact ⟨rfl, HRES.out _ HK⟩
 have HEN := Lh hen
 obtain ⟨q0, q1, q2⟩ := HK.out.now.1.c3
 clear hb hen q0 q2 b4 b5
 go_wp2_with fail
 go_loopw [56] (fun i wr => ∃ m : Nat, m ≤ nx.length ∧ i = .int .i64 m ∧ Hid (NextsTo T.L hd0 nx m) ∧ Hid (St w0 wr (fun W => BoxC (w.heap.size + 1) [.int .i64 hd0, .slice na nx.length nc, .int .i64 e] W ∧ TabBox w.heap.size cs W ∧ F W))) (fun i _ => nx.length - (intOf i).toNat)
 case atStart => exact ⟨0, Nat.zero_le _, rfl, Lh (fun x hx => by simp at hx), HK⟩
 case round =>
 clear HK q1
 obtain ⟨m, hm, rfl, HR, HK⟩ := hrel
 by_cases hlt : m < nx.length
 ·obtain ⟨q0, q1, q2⟩ := HK.out.now.1.c3
  have p6 := HK.out.now.2.1.cell1 h256
  have p7 := HK.out.now.2.1.cell1 h257
  obtain ⟨nb, no, x, hA, hx, hix, hxc⟩ := (HN.out _ HK.out.now.2.2).2.at_ hlt
  simp only at hA
  subst hA
  have HX := Lh hx
  have HNO : Hid (¬ NextOk T.L hd0 x → v = false) := Lh fun H => pB_f hv (fun H2 => H (H2.2.2 x (List.mem_of_getElem? HX.out)))
  have HYE : Hid (NextOk T.L hd0 x → NextsTo T.L hd0 nx (m + 1)) := Lh fun H => HR.out.next HX.out H
  clear hx hix hm HX HR
  by_cases c1 : x = -1
  ·subst c1
   have hg : decide ((0 : Int) ≤ -1) = false := by decide
   have HYE2 := Lh (HYE.out (.inl rfl))
   go_wp2_with fail
   go_quiet (fail)
   go_wp2_with fail
   exact ⟨⟨m + 1, by omega, by go_num, HYE2, St.hdrewN HK nq⟩, by simp [intOf]; omega⟩
  have c1a : (x == -1) = false := by rw [beq_eq_false_iff_ne]; exact c1
  have c1b : (x != -1) = true := by rw [bne_iff_ne]; exact c1
  by_cases c3 : (T.ns.length : Int) ≤ x
  ·obtain rfl := HNO.out (fun H => by
    rcases H with H | ⟨_, ⟨_, n, hn, _⟩ | ⟨H, _⟩⟩
    ·exact c1 H
    ·have := (List.getElem?_eq_some_iff.1 hn).1
     rw [nodesL_len] at this; omega
    ·omega)
   clear c1 c1a c1b
   go_wp2_with fail
   go_ret
   exact ⟨rfl, HRES.out _ HK⟩
  by_cases c4 : x < -1 - (T.acts.length : Int)
  ·obtain rfl := HNO.out (fun H => by
    rcases H with H | ⟨_, ⟨_, n, hn, _⟩ | ⟨_, n, hn, _⟩⟩
    ·exact c1 H
    ·omega
    ·have := (List.getElem?_eq_some_iff.1 hn).1
     rw [actsL_len] at this; omega)
   clear c1 c1a c1b
   go_wp2_with fail
   go_ret
   exact ⟨rfl, HRES.out _ HK⟩
  by_cases c2 : hd0 = 4
  ·obtain rfl := HNO.out (fun H => by
    rcases H with H | ⟨H, _⟩
    ·exact c1 H
    ·exact H c2)
   have c2a : (hd0 == 4) = true := by rw [beq_iff_eq]; exact c2
   clear c1 c2
   go_wp2_with fail
   go_ret
   exact ⟨rfl, HRES.out _ HK⟩
  have c2a : (hd0 == 4) = false := by rw [beq_eq_false_iff_ne]; exact c2
  have hs : IntKind.i64.wrap (hd0 + 1) = hd0 + 1 := IntWalk.i64_in _ (by omega)
  by_cases c5 : 0 ≤ x
  ·obtain ⟨j, rfl⟩ := Int.eq_ofNat_of_zero_le c5
   have hjl : j < T.ns.length := by omega
   obtain ⟨qb, qo, q, hB, hq, hqw, r0, r1, r2⟩ := (HT.out _ HK.out.now.2.2).nodes.at_ hjl
   have p6' := p6
   rw [hB] at p6'
   have HQ := Lh hq
   have hg : decide ((0 : Int) ≤ (j : Int)) = true := decide_eq_true c5
   have hji : (j : Int) < (T.ns.length : Int) := by omega
   clear p6 hq hqw c1 r1 r2 c1a
   by_cases c6 : q.h = hd0 + 1
   ·have HYE2 := Lh (HYE.out (.inr ⟨c2, .inl ⟨c5, _, nodesL_at HQ.out, c6⟩⟩))
    have c6a : (q.h != hd0 + 1) = false := by rw [bne_eq_false_iff_eq]; exact c6
    clear c6 c2 c3 hjl
    go_wp2_with fail
    go_quiet (fail)
    go_wp2_with fail
    exact ⟨⟨m + 1, by omega, by go_num, HYE2, St.hdrewN HK nq⟩, by simp [intOf]; omega⟩
   ·obtain rfl := HNO.out (fun H => c6 (next_at (nodesL_at HQ.out) H))
    have c6a : (q.h != hd0 + 1) = true := by rw [bne_iff_ne]; exact c6
    clear c6 c2 c3 hjl
    go_wp2_with fail
    go_quiet (fail)
    go_wp2_with fail
    go_ret
    exact ⟨rfl, HRES.out _ (St.hdrewN HK nq)⟩
  ·obtain ⟨j, hj⟩ := Int.eq_ofNat_of_zero_le (show 0 ≤ -2 - x by omega)
   have hjl : j < T.acts.length := by omega
   obtain ⟨ab, ao, a, hB, ha, haw, r0, r1, r2⟩ := (HT.out _ HK.out.now.2.2).acts.at_ hjl
   have p7' := p7
   rw [hB] at p7'
   have HA := Lh ha
   have HJ := Lh hj
   have hg : decide ((0 : Int) ≤ x) = false := decide_eq_false c5
   have hx2 : x < -1 := by omega
   have hji : (j : Int) < (T.acts.length : Int) := by omega
   have hj0 : (0 : Int) ≤ (j : Int) := by omega
   clear p7 ha c1 c1a c5
   have HKo := Lh (HK.out.add (Below.refl _ _) (G := OutW a.o) (fun W hW => OutW.stays _ _ _ haw.2 hW))
   clear haw
   go_wp2_with fail
   go_quiet (fail)
   have HKd := St.hdrewN HKo nq
   generalize hW2 : wr.drewN nq = W2 at HKd ⊢
   have e0 : ∀ p, W2.cell? p = wr.cell? p := fun p => by rw [← hW2]; rfl
   rw [← e0] at q0 q1 p7' r0 r1 r2
   have l0 := lt_of_cell q0
   have l1 : w.heap.size < W2.heap.size := by omega
   clear e0 hW2 q2 p6
   have HK := St.box HKd [.int .i64 a.e, .int .i64 a.d, .slice a.o.a a.o.l.length a.o.c] 59
   by_cases c7 : a.e ≤ hd0 + 1
   ·by_cases a2 : TermsOk (hd0 + 1) (a.o.l.map TermI.L)
    ·have H2 := Lh (pB_true a2)
     have HYE2 := Lh (HYE.out (.inr ⟨c2, .inr ⟨by omega, a.L, by rw [HJ.out, Int.toNat_natCast]; exact actsL_at HA.out, c7, a2⟩⟩))
     clear a2 c2
     go_wp2_with fail
     refine (right_st HK (fun _ h => h.2.1) a.o.c (hd0 + 1) true H2).mono ?_
     rintro e5 w5 ⟨rfl, HK⟩
     go_wp2_with fail
     exact ⟨⟨m + 1, by omega, by go_num, HYE2, Lh (HK.out.weaken fun _ h => h.2.2)⟩, by simp [intOf]; omega⟩
    ·have H2 := Lh (pB_false a2)
     obtain rfl := HNO.out (fun H => a2 (next_act HJ.out (actsL_at HA.out) H).2)
     clear a2 c2
     go_wp2_with fail
     refine (right_st HK (fun _ h => h.2.1) a.o.c (hd0 + 1) false H2).mono ?_
     rintro e5 w5 ⟨rfl, HK⟩
     go_wp2_with fail
     go_ret
     exact ⟨rfl, HRES.out _ (Lh (HK.out.weaken fun _ h => h.2.2))⟩
   ·obtain rfl := HNO.out (fun H => c7 (next_act HJ.out (actsL_at HA.out) H).1)
    clear c2
    go_wp2_with fail
    go_ret
    exact ⟨rfl, HRES.out _ (Lh (HK.out.weaken fun _ h => h.2.2))⟩
 ·obtain rfl : m = nx.length := by omega
  have hd : decide (nx.length < nx.length) = false := by simp
  obtain rfl := pB_t hv ⟨HHD.out, HEN.out, HR.out.all⟩
  go_wp2_with fail
  go_ret
  exact ⟨rfl, HRES.out _ HK⟩
end
end
section
def NodesTo (T : TabL) (k : Nat) (l : List NodeI) (m : Nat) : Prop := ∀ i ∈ l.take m, NodeOk T k i.L
theorem NodesTo.all {T : TabL} {k : Nat} {l : List NodeI} (h : NodesTo T k l l.length) : ∀ n ∈ l.map NodeI.L, NodeOk T k n := fun t ht => by
 obtain ⟨i, hi, rfl⟩ := List.mem_map.1 ht
 exact h i (by rwa [List.take_length])
theorem NodesTo.next {T : TabL} {k : Nat} {l : List NodeI} {m : Nat} {i : NodeI} (h : NodesTo T k l m) (hx : l[m]? = some i) (hi : NodeOk T k i.L) : NodesTo T k l (m + 1) := fun q hq => by
 rw [take_snoc? hx] at hq
 rcases List.mem_append.1 hq with hq | hq
 ·exact h q hq
 ·simp at hq; subst hq; exact hi
theorem NodeW.below {n : NodeI} {w w' : World} (h : NodeW n w) (hb : Below w.heap.size w w') : NodeW n w' := NodeW.stays _ _ _ h hb
def NodesOk (T : TabL) (k : Nat) : Prop := ∀ n ∈ T.nodes, NodeOk T k n
section
variable {w0 w : World} {F : World → Prop}
theorem check1_st (hK : Hid (St w0 w F)) (cs : Array Value) (T : TabI) (hC : TabC cs T) (ht : ∀ W, F W → TabW T W) (n : NodeI) (hn : ∀ W, F W → NodeW n W) (tb kb : Nat) (k : Nat)
  (htb : ∀ W, F W → TabBox tb cs W) (hkb : ∀ W, F W → BoxC kb [.int .i64 (k : Int)] W) (v : Bool) (hv : Hid (pB (NodeOk T.L k n.L) = v))
  (hl1 : T.ns.length ≤ 4096) (hl2 : T.acts.length ≤ 4096) (hl3 : T.es.length ≤ 4096) (hl4 : k ≤ 256) :
  Calls Tryz.prog 87 #[.agg #[.int .i64 n.h, .slice n.na n.nx.length n.nc, .int .i64 n.e], .pointer (some ⟨tb, 0, none⟩), .pointer (some ⟨kb, 0, none⟩)] w (RetV w0 (.bool (!v)) F) := by
 have HK := St.box hK [.int .i64 n.h, .slice n.na n.nx.length n.nc, .int .i64 n.e] 64
 have HN := Lh hn
 have HT := Lh ht
 have hc := hkb _ HK.out.now.2 0 _ rfl
 have hh := htb _ HK.out.now.2
 have hin : (Tryz.prog.info? 49).map (·.size) = some cs.size := by rw [hC.size]; kernel_rfl
 have HH := Lh hh
 have HI := Lh hin
 clear hn ht hkb htb hh hin
 go_enter Tryz.func87, Tryz.ntmps87
 go_wp2_with (refine wpList_load_row rfl 49 _ rfl tb rfl _ cs _ _ HH.out Tryz.underlying49 rfl HI.out ?_)
 refine (node_st HK cs T hC (fun _ h => HT.out _ h.2) n (fun _ h => HN.out _ h.2) k v hv hl1 hl2 hl3 hl4).mono ?_
 rintro e w1 ⟨rfl, HK1⟩
 cases v
 all_goals
  go_wp2_with fail
  go_ret
  exact ⟨rfl, Lh (HK1.out.weaken fun _ h => h.2)⟩
theorem indexN_st (hK : Hid (St w0 w F)) (cs : Array Value) (T : TabI) (hC : TabC cs T) (ht : ∀ W, F W → TabW T W) (tb kb : Nat) (k : Nat)
  (htb : ∀ W, F W → TabBox tb cs W) (hkb : ∀ W, F W → BoxC kb [.int .i64 (k : Int)] W) (v : Bool) (hv : Hid (pB (NodesOk T.L k) = v))
  (hl1 : T.ns.length ≤ 4096) (hl2 : T.acts.length ≤ 4096) (hl3 : T.es.length ≤ 4096) (hl4 : k ≤ 256) :
  Calls Tryz.prog 131 #[.slice T.na T.ns.length T.nc, .func (.func 87) #[] #[.pointer (some ⟨tb, 0, none⟩), .pointer (some ⟨kb, 0, none⟩)]] w (RetIx w0 v F) := by
 have HT := Lh ht
 have HTB := Lh htb
 have HKB := Lh hkb
 clear ht htb hkb
 go_enter Tryz.func131, Tryz.ntmps131
 go_wp2_with fail
 go_loopw [8] (fun i wr => ∃ m : Nat, m ≤ T.ns.length ∧ i = .int .i64 m ∧ Hid (NodesTo T.L k T.ns m) ∧ Hid (St w0 wr F)) (fun i _ => T.ns.length - (intOf i).toNat)
 case atStart => exact ⟨0, Nat.zero_le _, rfl, Lh (fun i hi => by simp at hi), hK⟩
 case round =>
 obtain ⟨m, hm, rfl, HR, HK⟩ := hrel
 by_cases hlt : m < T.ns.length
 ·obtain ⟨pb, off, n, hA, hx, hw, hd0, hd1, hd2⟩ := (HT.out _ HK.out.now).nodes.at_ hlt
  have HX := Lh hx
  have HKi := Lh (HK.out.add (Below.refl _ _) (G := NodeW n) (fun W hW => hw.below hW))
  rw [hA]
  clear hx hw
  by_cases a2 : NodeOk T.L k n.L
  ·have H2 := Lh (pB_true a2)
   have HR2 := Lh (HR.out.next HX.out a2)
   clear a2
   go_wp2_with fail
   refine (check1_st HKi cs T hC (fun _ h => HT.out _ h.2) n (fun _ h => h.1) tb kb k (fun _ h => HTB.out _ h.2) (fun _ h => HKB.out _ h.2) true H2 hl1 hl2 hl3 hl4).mono ?_
   rintro e w1 ⟨rfl, HK1⟩
   go_wp2_with fail
   exact ⟨⟨m + 1, by omega, by go_num, HR2, Lh (HK1.out.weaken fun _ h => h.2)⟩, by simp [intOf]; omega⟩
  ·have H2 := Lh (pB_false a2)
   obtain rfl := pB_f hv (fun h => a2 (h _ (List.mem_map.2 ⟨n, List.mem_of_getElem? HX.out, rfl⟩)))
   clear a2
   go_wp2_with fail
   refine (check1_st HKi cs T hC (fun _ h => HT.out _ h.2) n (fun _ h => h.1) tb kb k (fun _ h => HTB.out _ h.2) (fun _ h => HKB.out _ h.2) false H2 hl1 hl2 hl3 hl4).mono ?_
   rintro e w1 ⟨rfl, HK1⟩
   go_wp2_with fail
   go_ret
   exact ⟨m, rfl, .inr ⟨rfl, by omega⟩, Lh (HK1.out.weaken fun _ h => h.2)⟩
 ·obtain rfl : m = T.ns.length := by omega
  have hd : decide (T.ns.length < T.ns.length) = false := by simp
  obtain rfl := pB_t hv HR.out.all
  go_wp2_with fail
  go_ret
  exact ⟨-1, rfl, .inl ⟨rfl, rfl⟩, HK⟩
theorem containsN_st (hK : Hid (St w0 w F)) (cs : Array Value) (T : TabI) (hC : TabC cs T) (ht : ∀ W, F W → TabW T W) (tb kb : Nat) (k : Nat)
  (htb : ∀ W, F W → TabBox tb cs W) (hkb : ∀ W, F W → BoxC kb [.int .i64 (k : Int)] W) (v : Bool) (hv : Hid (pB (NodesOk T.L k) = v))
  (hl1 : T.ns.length ≤ 4096) (hl2 : T.acts.length ≤ 4096) (hl3 : T.es.length ≤ 4096) (hl4 : k ≤ 256) :
  Calls Tryz.prog 86 #[.slice T.na T.ns.length T.nc, .func (.func 87) #[] #[.pointer (some ⟨tb, 0, none⟩), .pointer (some ⟨kb, 0, none⟩)]] w (RetV w0 (.bool (!v)) F) := by
 have HT := Lh ht
 have HTB := Lh htb
 have HKB := Lh hkb
 clear ht htb hkb
 go_enter Tryz.func86, Tryz.ntmps86
 go_wp2_with fail
 refine (indexN_st hK cs T hC HT.out tb kb k HTB.out HKB.out v hv hl1 hl2 hl3 hl4).mono ?_
 rintro e w1 ⟨r, rfl, hr, HK1⟩
 rcases hr with ⟨rfl, rfl⟩ | ⟨rfl, hr⟩
 all_goals
  go_wp2_with fail
  go_ret
  exact ⟨rfl, HK1⟩
def maxL (l : List Int) : Int := l.foldl max 0
theorem maxL_snoc (l : List Int) (x : Int) : maxL (l ++ [x]) = max (maxL l) x := by unfold maxL; rw [List.foldl_append]; rfl
theorem maxL_bd {l : List Int} (h : U8s l) : 0 ≤ maxL l ∧ maxL l < 256 := by
 have : ∀ (l : List Int) (a : Int), U8s l → 0 ≤ a ∧ a < 256 → 0 ≤ l.foldl max a ∧ l.foldl max a < 256 := by
  intro l
  induction l with
  | nil => intro a _ ha; exact ha
  | cons x l ih => intro a hl ha; have := hl x (by simp); exact ih _ (fun y hy => hl y (by simp [hy])) (by omega)
 exact this l 0 h (by omega)
theorem maxL_lt (l : List Int) (k : Int) (hk : 0 < k) : maxL l < k ↔ ∀ c ∈ l, c < k := by
 have : ∀ (l : List Int) (a : Int), l.foldl max a < k ↔ a < k ∧ ∀ c ∈ l, c < k := by
  intro l
  induction l with
  | nil => intro a; simp
  | cons x l ih =>
   intro a
   rw [List.foldl_cons, ih]
   simp only [List.mem_cons, forall_eq_or_imp]
   constructor
   ·rintro ⟨h1, h2⟩; exact ⟨by omega, by omega, h2⟩
   ·rintro ⟨h1, h2, h3⟩; exact ⟨by omega, h3⟩
 unfold maxL
 rw [this]
 exact ⟨fun h => h.2, fun h => ⟨hk, h⟩⟩
theorem maxU8_any (tb : Nat) (l : List Int) (hu : U8s l) (hl : l.length = 256) (w : World) (hc : ∀ (i : Nat) (x : Int), l[i]? = some x → w.cell? ⟨tb, i, none⟩ = some (.int .u8 x)) :
  Calls Tryz.prog 85 #[.slice (some ⟨tb, 0, none⟩) 256 256] w fun e w' => e = .returned (.int .u8 (maxL l)) ∧ w = w' := by
 have HC := Lh hc
 have HU := Lh hu
 have HL := Lh hl
 obtain ⟨x0, hx0⟩ : ∃ x, l[0]? = some x := ⟨_, List.getElem?_eq_getElem (by omega)⟩
 have h0 := hc 0 _ hx0
 have HX0 := Lh hx0
 clear hc hu hl hx0
 go_enter Tryz.func85, Tryz.ntmps85
 go_wp2_with fail
 go_loop [3, 4] (fun mv iv => ∃ (k : Nat) (m : Int), 1 ≤ k ∧ k ≤ 256 ∧ iv = .int .i64 k ∧ mv = .int .u8 m ∧ Hid (m = maxL (l.take k))) (fun _ iv => 256 - (intOf iv).toNat)
 case atStart => exact ⟨1, x0, Nat.le_refl _, by omega, rfl, rfl, Lh (by
  rw [take_snoc? HX0.out, maxL_snoc]
  have := HU.out x0 (List.mem_of_getElem? HX0.out)
  simp only [List.take_zero, maxL, List.foldl_nil]; omega)⟩
 case round =>
 clear h0
 obtain ⟨k, m, hk1, hk, rfl, rfl, HM⟩ := hrel
 by_cases hlt : k < 256
 ·obtain ⟨x, hx⟩ : ∃ x, l[k]? = some x := ⟨_, List.getElem?_eq_getElem (by rw [HL.out]; exact hlt)⟩
  have hcx := HC.out k _ hx
  have HN : Hid (max m x = maxL (l.take (k + 1))) := Lh (by rw [take_snoc? hx, maxL_snoc, HM.out])
  clear hx
  go_wp2_with fail
  go_round
  case rel => exact ⟨k + 1, max m x, by omega, by omega, by go_num, rfl, HN⟩
  case measure => simp [intOf]; omega
 ·obtain rfl : k = 256 := by omega
  have HE : Hid (m = maxL l) := Lh (by rw [HM.out, ← HL.out, List.take_length])
  go_wp2_with fail
  go_ret
  exact ⟨congrArg (fun u => Ending.returned (.int .u8 u)) HE.out, rfl⟩
end
end
section
def ActsTo (T : TabL) (l : List ActI) (m : Nat) : Prop := ∀ i ∈ l.take m, ActOk T i.L
theorem ActsTo.all {T : TabL} {l : List ActI} (h : ActsTo T l l.length) : ∀ n ∈ l.map ActI.L, ActOk T n := fun t ht => by
 obtain ⟨i, hi, rfl⟩ := List.mem_map.1 ht
 exact h i (by rwa [List.take_length])
theorem ActsTo.next {T : TabL} {l : List ActI} {m : Nat} {i : ActI} (h : ActsTo T l m) (hx : l[m]? = some i) (hi : ActOk T i.L) : ActsTo T l (m + 1) := fun q hq => by
 rw [take_snoc? hx] at hq
 rcases List.mem_append.1 hq with hq | hq
 ·exact h q hq
 ·simp at hq; subst hq; exact hi
def EndsTo (l : List OutI) (m : Nat) : Prop := ∀ i ∈ l.take m, i.l.length ≤ 64
theorem EndsTo.all {l : List OutI} (h : EndsTo l l.length) : ∀ n ∈ l.map OutI.L, n.length ≤ 64 := fun t ht => by
 obtain ⟨i, hi, rfl⟩ := List.mem_map.1 ht
 have := h i (by rwa [List.take_length])
 simpa [OutI.L] using this
theorem EndsTo.next {l : List OutI} {m : Nat} {i : OutI} (h : EndsTo l m) (hx : l[m]? = some i) (hi : i.l.length ≤ 64) : EndsTo l (m + 1) := fun q hq => by
 rw [take_snoc? hx] at hq
 rcases List.mem_append.1 hq with hq | hq
 ·exact h q hq
 ·simp at hq; subst hq; exact hi
theorem outL_len (o : OutI) : o.L.length = o.l.length := List.length_map _
def HeadK (T : TabL) (K : Nat) : Prop := 1 ≤ K ∧ K ≤ 256 ∧ ∀ c ∈ T.cls, c < K
section
variable {w0 w : World} {F : World → Prop}
theorem tCheck_st (hK : Hid (St w0 w F)) (cs : Array Value) (T : TabI) (hC : TabC cs T) (ht : ∀ W, F W → TabW T W) (v : Bool) (hv : Hid (pB (TabOk T.L) = v)) :
  Calls Tryz.prog 33 #[.agg cs] w (RetV w0 (.bool v) F) := by
 have HT := Lh ht
 have h258 := hC.c3
 have h257 := hC.c2
 have h256 := hC.c1
 have HK := St.tbox hK cs
 have HRES : Hid (∀ W (G : World → Prop), Hid (St w0 W (fun W => G W ∧ F W)) → Hid (St w0 W F)) := Lh fun W G h => Lh (h.out.weaken fun _ h => h.2)
 have HNO : Hid (¬ TabOk T.L → v = false) := Lh fun H => pB_f hv H
 clear ht
 have hln1 := (HT.out _ HK.out.now.2).nodes.ln
 have hln2 := (HT.out _ HK.out.now.2).acts.ln
 have hln3 := (HT.out _ HK.out.now.2).ends.ln
 by_cases a1 : T.ns.length = 0
 ·obtain rfl := HNO.out (fun H => by
   obtain ⟨n, hn, _⟩ := H.head.2.2.2
   have := (List.getElem?_eq_some_iff.1 hn).1
   rw [nodesL_len] at this; omega)
  have a1' : (T.ns.length : Int) < 1 := by omega
  clear a1
  go_enter Tryz.func33, Tryz.ntmps33
  go_wp2_with fail
  go_ret
  exact ⟨rfl, HRES.out _ _ HK⟩
 by_cases a2 : ¬ T.ns.length ≤ 4096
 ·obtain rfl := HNO.out (fun H => a2 (by have := H.head.1; rwa [nodesL_len] at this))
  have a2' : (4096 : Int) < T.ns.length := by omega
  clear a1 a2
  go_enter Tryz.func33, Tryz.ntmps33
  go_wp2_with fail
  go_ret
  exact ⟨rfl, HRES.out _ _ HK⟩
 by_cases a3 : ¬ T.acts.length ≤ 4096
 ·obtain rfl := HNO.out (fun H => a3 (by have := H.head.2.1; rwa [actsL_len] at this))
  have a3' : (4096 : Int) < T.acts.length := by omega
  clear a1 a2 a3
  go_enter Tryz.func33, Tryz.ntmps33
  go_wp2_with fail
  all_goals (go_ret; exact ⟨rfl, HRES.out _ _ HK⟩)
 by_cases a4 : ¬ T.es.length ≤ 4096
 ·obtain rfl := HNO.out (fun H => a4 (by have := H.head.2.2.1; rwa [endsL_len] at this))
  have a4' : (4096 : Int) < T.es.length := by omega
  clear a1 a2 a3 a4
  go_enter Tryz.func33, Tryz.ntmps33
  go_wp2_with fail
  all_goals (go_ret; exact ⟨rfl, HRES.out _ _ HK⟩)
 have hl1 : T.ns.length ≤ 4096 := by omega
 have hl2 : T.acts.length ≤ 4096 := by omega
 have hl3 : T.es.length ≤ 4096 := by omega
 have hl0 : 0 < T.ns.length := by omega
 clear a1 a2 a3 a4 hln1 hln2 hln3
 obtain ⟨nb, no, n0, hA, hn0, hn0w, r0, r1, r2⟩ := (HT.out _ HK.out.now.2).nodes.at_ hl0
 have g256 := h256
 rw [hA] at g256
 have hln0 := hn0w.2.ln
 rw [Nat.zero_mul, Nat.add_zero] at r0 r1 r2
 have HN0 := Lh hn0
 have HR1 : Hid (∀ W, F W → W.cell? ⟨nb, no + 1, none⟩ = some (.slice n0.na n0.nx.length n0.nc)) := Lh fun W hW => by
  obtain ⟨nb', no', n0', hA', hn0', _, _, r1', _⟩ := (HT.out _ hW).nodes.at_ hl0
  rw [hA] at hA'; injection hA' with hA'; injection hA' with e1 e2; subst e1; subst e2
  rw [hn0] at hn0'; injection hn0' with hn0'; subst hn0'
  rw [Nat.zero_mul, Nat.add_zero] at r1'; exact r1'
 clear hn0 hn0w
 have hlz : nb < w.heap.size := by
  have hx := (HT.out _ hK.out.now).nodes.at_ hl0
  obtain ⟨nb', no', n0', hA', _, _, r0', _⟩ := hx
  rw [hA] at hA'; injection hA' with hA'; injection hA' with e1 e2; subst e1
  exact lt_of_cell r0'
 by_cases a5 : ¬ n0.h = 0
 ·obtain rfl := HNO.out (fun H => a5 (by
   obtain ⟨n, hn, h1, _⟩ := H.head.2.2.2
   rw [nodesL_at HN0.out] at hn; injection hn with hn; subst hn; exact h1))
  have a5' : (n0.h != 0) = true := by rw [bne_iff_ne]; exact a5
  clear a5
  go_enter Tryz.func33, Tryz.ntmps33
  go_wp2_with fail
  go_ret
  exact ⟨rfl, HRES.out _ _ HK⟩
 have a5 := Classical.not_not.1 a5
 have a5' : (n0.h != 0) = false := by rw [bne_eq_false_iff_eq]; exact a5
 have HA5 := Lh a5
 have HW : Hid (widthL T.L = n0.nx.length) := Lh (widthL_at (nodesL_at HN0.out))
 have hw0 : (w.alloc (.cells cs 49)).heap.size = w.heap.size + 1 := by simp
 have HKk := St.box HK [.int .i64 (n0.nx.length : Int)] 3
 rw [hw0] at HKk
 clear a5 hw0
 obtain ⟨K, hKn⟩ : ∃ K, n0.nx.length = K := ⟨_, rfl⟩
 rw [hKn] at HW HKk r1 HR1
 have HKN := Lh hKn
 obtain ⟨M, hM⟩ : ∃ M, maxL T.cls = M := ⟨_, rfl⟩
 have hMb := maxL_bd hC.u8
 rw [hM] at hMb
 have HM := Lh hM
 have HQ : Hid (∀ n, Calls Tryz.prog 85 #[.slice (some ⟨w.heap.size, 0, none⟩) 256 256] (((w.alloc (.cells cs 49)).alloc (.cells #[.int .i64 (K : Int)] 3)).drewN n) fun e w'' => e = .returned (.int .u8 M) ∧ ∃ m, w'' = ((w.alloc (.cells cs 49)).alloc (.cells #[.int .i64 (K : Int)] 3)).drewN m) := Lh fun n => by
  have h := maxU8_any w.heap.size T.cls hC.u8 hC.ln (((w.alloc (.cells cs 49)).alloc (.cells #[.int .i64 (K : Int)] 3)).drewN n) (fun i x hx => HKk.out.now.2.1.cell1 (hC.cl i x hx))
  rw [hM] at h
  exact h.mono fun e w'' ⟨h1, h2⟩ => ⟨h1, n, h2.symm⟩
 have HMK : Hid (1 ≤ K → (M < (K : Int) ↔ ∀ c ∈ T.L.cls, c < (K : Int))) := Lh fun h => by rw [← HM.out]; exact maxL_lt T.cls K (by omega)
 clear hM hKn
 obtain ⟨hM0, hM1⟩ := hMb
 have hKb : K ≤ 9223372036854775807 := by rw [← HKN.out]; exact hln0
 clear hln0
 have r1' : w.cell? ⟨nb, no + 1, none⟩ = some (.slice n0.na K n0.nc) := HR1.out w hK.out.now
 go_enter Tryz.func33, Tryz.ntmps33
 go_wp2_with fail
 go_cut [57] (fun s wr => ∃ b : Bool, s = .bool b ∧ Hid ((b = true ∧ v = false) ∨ (b = false ∧ HeadK T.L K)) ∧ Hid (St w0 wr (fun W => BoxC (w.heap.size + 1) [.int .i64 (K : Int)] W ∧ TabBox w.heap.size cs W ∧ F W)))
 case first =>
  have hkc := HKk.out.now.1 0 _ rfl
  by_cases b1 : (K : Int) < 1
  ·have g1 : decide ((K : Int) < 1) = true := decide_eq_true b1
   have HV : Hid (v = false) := Lh (HNO.out (fun H => by
    obtain ⟨n, hn, _, h2, _⟩ := H.head.2.2.2
    rw [nodesL_at HN0.out] at hn; injection hn with hn; subst hn
    have h3 : 1 ≤ n0.nx.length := h2
    rw [HKN.out] at h3; omega))
   clear b1 HQ
   go_quiet (fail)
   go_wp2_with fail
   go_meet
   exact ⟨true, rfl, Lh (.inl ⟨rfl, HV.out⟩), St.hdrewN HKk nq⟩
  have g1 : decide ((K : Int) < 1) = false := decide_eq_false b1
  by_cases b2 : (256 : Int) < K
  ·have g2 : decide ((256 : Int) < (K : Int)) = true := decide_eq_true b2
   have HV : Hid (v = false) := Lh (HNO.out (fun H => by
    obtain ⟨n, hn, _, _, h2⟩ := H.head.2.2.2
    rw [nodesL_at HN0.out] at hn; injection hn with hn; subst hn
    have h3 : n0.nx.length ≤ 256 := h2
    rw [HKN.out] at h3; omega))
   clear b1 b2 HQ
   go_quiet (fail)
   go_wp2_with fail
   go_meet
   exact ⟨true, rfl, Lh (.inl ⟨rfl, HV.out⟩), St.hdrewN HKk nq⟩
  have g2 : decide ((256 : Int) < (K : Int)) = false := decide_eq_false b2
  have hmk := HMK.out (by omega)
  by_cases b3 : (K : Int) ≤ M
  ·have g3 : decide ((K : Int) ≤ M) = true := decide_eq_true b3
   have HV : Hid (v = false) := Lh (HNO.out (fun H => by
    have h3 := H.cls
    rw [HW.out] at h3
    have := hmk.2 h3
    omega))
   clear b1 b2 b3 hmk
   go_quiet ((go_at_call 85; exact HQ.out _))
   go_wp2_with fail
   go_meet
   exact ⟨true, rfl, Lh (.inl ⟨rfl, HV.out⟩), St.hdrewN HKk nq⟩
  ·have g3 : decide ((K : Int) ≤ M) = false := decide_eq_false b3
   have HH : Hid (HeadK T.L K) := Lh ⟨by omega, by omega, hmk.1 (by omega)⟩
   clear b1 b2 b3 hmk
   go_quiet ((go_at_call 85; exact HQ.out _))
   go_wp2_with fail
   go_meet
   exact ⟨false, rfl, Lh (.inr ⟨rfl, HH.out⟩), St.hdrewN HKk nq⟩
 case rest =>
 clear HQ HMK HKk r0 r1 r2 r1' HK
 obtain ⟨b, rfl, hb, HK⟩ := hcut
 rcases hb.out with ⟨rfl, rfl⟩ | ⟨rfl, hen⟩
 ·clear hb
  go_wp2_with fail
  go_ret
  exact ⟨rfl, Lh (HK.out.weaken fun _ h => h.2.2)⟩
 have HEN := Lh hen
 have q7 := HK.out.now.2.1.cell1 h257
 clear hb hen
 have hfin : ∀ W, Hid (St w0 W (fun W => BoxC (w.heap.size + 1) [.int .i64 (K : Int)] W ∧ TabBox w.heap.size cs W ∧ F W)) → Hid (St w0 W F) := fun W h => Lh (h.out.weaken fun _ h => h.2.2)
 have HF := Lh hfin
 have hlw : w.heap.size < w.heap.size + 1 := by omega
 clear hfin
 go_wp2_with fail
 go_loopw [61] (fun i wr => ∃ m : Nat, m ≤ T.acts.length ∧ i = .int .i64 m ∧ Hid (ActsTo T.L T.acts m) ∧ Hid (St w0 wr (fun W => BoxC (w.heap.size + 1) [.int .i64 (K : Int)] W ∧ TabBox w.heap.size cs W ∧ F W))) (fun i _ => T.acts.length - (intOf i).toNat)
 case atStart => exact ⟨0, Nat.zero_le _, rfl, Lh (fun i hi => by simp at hi), HK⟩
 case round =>
 clear HK q7
 obtain ⟨m, hm, rfl, HR, HK⟩ := hrel
 by_cases hlt : m < T.acts.length
 ·obtain ⟨ab, ao, a, hB, ha, haw, r0, r1, r2⟩ := (HT.out _ HK.out.now.2.2).acts.at_ hlt
  have HAC := Lh ha
  have q6 := HK.out.now.2.1.cell1 g256
  have l1 := lt_of_cell r0
  have l2 := lt_of_cell q6
  have HKa := St.box HK [.int .i64 a.e, .int .i64 a.d, .slice a.o.a a.o.l.length a.o.c] 59
  have HNA : Hid (¬ ActOk T.L a.L → v = false) := Lh fun H => HNO.out (fun H2 => H (H2.acts _ (List.mem_map.2 ⟨a, List.mem_of_getElem? HAC.out, rfl⟩)))
  have HYA : Hid (ActOk T.L a.L → ActsTo T.L T.acts (m + 1)) := Lh fun H => HR.out.next HAC.out H
  rw [hB]
  clear ha haw hB
  have HFA : Hid (∀ W, Hid (St w0 W (fun W => BoxC wr.heap.size [.int .i64 a.e, .int .i64 a.d, .slice a.o.a a.o.l.length a.o.c] W ∧ BoxC (w.heap.size + 1) [.int .i64 (K : Int)] W ∧ TabBox w.heap.size cs W ∧ F W)) → Hid (St w0 W F)) := Lh fun W h => Lh (h.out.weaken fun _ h => h.2.2.2)
  by_cases c1 : ¬ 1 ≤ a.e
  ·obtain rfl := HNA.out (fun H => c1 H.1)
   have c1' : a.e < 1 := by omega
   clear c1
   go_wp2_with fail
   go_ret
   exact ⟨rfl, HFA.out _ HKa⟩
  have c1 := Classical.not_not.1 c1
  by_cases c2 : ¬ a.e ≤ 4
  ·obtain rfl := HNA.out (fun H => c2 H.2.1)
   have c2' : 4 < a.e := by omega
   clear c2
   go_wp2_with fail
   go_ret
   exact ⟨rfl, HFA.out _ HKa⟩
  have c2 := Classical.not_not.1 c2
  by_cases c3 : ¬ 0 ≤ a.d
  ·obtain rfl := HNA.out (fun H => c3 H.2.2.1)
   have c3' : a.d < 0 := by omega
   clear c3
   go_wp2_with fail
   go_ret
   exact ⟨rfl, HFA.out _ HKa⟩
  have c3 := Classical.not_not.1 c3
  by_cases c4 : (T.ns.length : Int) ≤ a.d
  ·obtain rfl := HNA.out (fun H => by
    obtain ⟨n, hn, _⟩ := H.2.2.2.1
    have := (List.getElem?_eq_some_iff.1 hn).1
    rw [nodesL_len] at this
    have e : a.L.dest = a.d := rfl
    rw [e] at this
    omega)
   go_wp2_with fail
   go_ret
   exact ⟨rfl, HFA.out _ HKa⟩
  obtain ⟨j, hj⟩ := Int.eq_ofNat_of_zero_le c3
  have hjl : j < T.ns.length := by omega
  obtain ⟨qb, qo, q, hB2, hq, hqw, s0, s1, s2⟩ := (HT.out _ HK.out.now.2.2).nodes.at_ hjl
  rw [hA] at hB2
  injection hB2 with hB2
  injection hB2 with e1 e2
  subst e1; subst e2
  have HQN := Lh hq
  have HJ := Lh hj
  have e3 : a.L.dest.toNat = j := by show a.d.toNat = j; rw [hj, Int.toNat_natCast]
  have HE3 := Lh e3
  have l3 := lt_of_cell s0
  have hjb : (j : Int) < (T.ns.length : Int) := by omega
  have hj0 : (0 : Int) ≤ (j : Int) := by omega
  clear hq hqw s1 s2 e3 c3 c4
  rw [hj] at r1
  rw [hj] at HKa HFA
  by_cases c5 : ¬ q.h = 0
  ·obtain rfl := HNA.out (fun H => c5 (by
    obtain ⟨n, hn, h1⟩ := H.2.2.2.1
    rw [HE3.out, nodesL_at HQN.out] at hn; injection hn with hn; subst hn; exact h1))
   have c5' : (q.h != 0) = true := by rw [bne_iff_ne]; exact c5
   clear c5 hj
   go_wp2_with fail
   go_ret
   exact ⟨rfl, HFA.out _ HKa⟩
  have c5 := Classical.not_not.1 c5
  have c5' : (q.h != 0) = false := by rw [bne_eq_false_iff_eq]; exact c5
  by_cases c6 : ¬ a.o.l.length ≤ 64
  ·obtain rfl := HNA.out (fun H => c6 (by have := H.2.2.2.2; rwa [show a.L.out.length = a.o.l.length from outL_len a.o] at this))
   have c6' : (64 : Int) < a.o.l.length := by omega
   clear c5 c6 hj
   go_wp2_with fail
   go_ret
   exact ⟨rfl, HFA.out _ HKa⟩
  have c6 := Classical.not_not.1 c6
  have HYA2 := Lh (HYA.out ⟨c1, c2, by show 0 ≤ a.d; rw [hj]; exact hj0, ⟨q.L, by rw [HE3.out]; exact nodesL_at HQN.out, c5⟩, by rw [show a.L.out.length = a.o.l.length from outL_len a.o]; exact c6⟩)
  clear c5 hj
  go_wp2_with fail
  exact ⟨⟨m + 1, by omega, by go_num, HYA2, Lh (HKa.out.weaken fun _ h => h.2)⟩, by simp [intOf]; omega⟩
 obtain rfl : m = T.acts.length := by omega
 have hd : decide (T.acts.length < T.acts.length) = false := by simp
 have HACTS := Lh HR.out.all
 have q8 := HK.out.now.2.1.cell1 h258
 clear HR hm
 go_wp2_with fail
 clear hd
 go_loopw [106] (fun i wr => ∃ m : Nat, m ≤ T.es.length ∧ i = .int .i64 m ∧ Hid (EndsTo T.es m) ∧ Hid (St w0 wr (fun W => BoxC (w.heap.size + 1) [.int .i64 (K : Int)] W ∧ TabBox w.heap.size cs W ∧ F W))) (fun i _ => T.es.length - (intOf i).toNat)
 case atStart => exact ⟨0, Nat.zero_le _, rfl, Lh (fun i hi => by simp at hi), HK⟩
 case round =>
 clear HK q8
 obtain ⟨m, hm, rfl, HR, HK⟩ := hrel
 by_cases hlt2 : m < T.es.length
 ·obtain ⟨eb, eo, o, hB, ho, how, r0⟩ := (HT.out _ HK.out.now.2.2).ends.at_ hlt2
  have HO := Lh ho
  rw [hB]
  clear ho how hB
  by_cases c6 : ¬ o.l.length ≤ 64
  ·obtain rfl := HNO.out (fun H => c6 (by have := H.ends o.L (List.mem_map.2 ⟨o, List.mem_of_getElem? HO.out, rfl⟩); rwa [outL_len] at this))
   have c6' : (64 : Int) < o.l.length := by omega
   clear c6
   go_wp2_with fail
   go_ret
   exact ⟨rfl, HF.out _ HK⟩
  have c6 := Classical.not_not.1 c6
  have HY := Lh (HR.out.next HO.out c6)
  go_wp2_with fail
  exact ⟨⟨m + 1, by omega, by go_num, HY, HK⟩, by simp [intOf]; omega⟩
 obtain rfl : m = T.es.length := by omega
 have hd : decide (T.es.length < T.es.length) = false := by simp
 have HENDS := Lh HR.out.all
 have q6 := HK.out.now.2.1.cell1 h256
 clear HR hm
 have HV : Hid (pB (NodesOk T.L K) = v) := Lh (by
  rw [← hv.out]
  refine pB_congr ⟨fun H => ⟨⟨by rw [nodesL_len]; exact hl1, by rw [actsL_len]; exact hl2, by rw [endsL_len]; exact hl3, n0.L, nodesL_at HN0.out, HA5.out, ?_, ?_⟩, by rw [HW.out]; exact HEN.out.2.2, HACTS.out, HENDS.out, by rw [HW.out]; exact H⟩, fun H => ?_⟩
  ·show 1 ≤ n0.nx.length; rw [HKN.out]; exact HEN.out.1
  ·show n0.nx.length ≤ 256; rw [HKN.out]; exact HEN.out.2.1
  ·have := H.nodes; rwa [HW.out] at this)
 have hK256 : K ≤ 256 := HEN.out.2.1
 go_wp2_with fail
 have hcn := containsN_st HK cs T hC (fun _ h => HT.out _ h.2.2) w.heap.size (w.heap.size + 1) K (fun _ h => h.2.1) (fun _ h => h.1) v HV hl1 hl2 hl3 hK256
 rw [hA] at hcn
 refine hcn.mono ?_
 clear hcn
 rintro e w9 ⟨rfl, HK9⟩
 cases v
 all_goals
  go_wp2_with fail
  go_ret
  exact ⟨rfl, HF.out _ HK9⟩
end
end
section
theorem max_take {α : Type} (f : α → Nat) {l : List α} {k : Nat} {x : α} (h : l[k]? = some x) (n : Nat) : ((l.take (k + 1)).map f).foldl max n = max (((l.take k).map f).foldl max n) (f x) := by
 rw [take_snoc? h, List.map_append, List.foldl_append]; rfl
section
variable {w0 w : World} {F : World → Prop}
theorem mact_len {T : TabI} {W : World} (h : TabW T W) : ∀ x ∈ T.L.acts.map (fun a => a.out.length), x ≤ 9223372036854775807 := by
 intro x hx
 obtain ⟨a, ha, rfl⟩ := List.mem_map.1 hx
 obtain ⟨b, hb, rfl⟩ := List.mem_map.1 ha
 have h2 := (h.acts.it b hb).2.ln
 show (b.o.l.map TermI.L).length ≤ _
 rw [List.length_map]; exact h2
theorem mend_len {T : TabI} {W : World} (h : TabW T W) : ∀ x ∈ T.L.ends.map List.length, x ≤ 9223372036854775807 := by
 intro x hx
 obtain ⟨a, ha, rfl⟩ := List.mem_map.1 hx
 obtain ⟨b, hb, rfl⟩ := List.mem_map.1 ha
 have h2 := (h.ends.it b hb).ln
 show (b.l.map TermI.L).length ≤ _
 rw [List.length_map]; exact h2
theorem Most_st (hK : Hid (St w0 w F)) (cs : Array Value) (T : TabI) (hC : TabC cs T) (ht : ∀ W, F W → TabW T W) (v : Nat) (hv : Hid (mostL T.L = v)) :
  Calls Tryz.prog 35 #[.agg cs] w (RetV w0 (.int .i64 (v : Int)) F) := by
 have HT := Lh ht
 have h258 := hC.c3
 have h257 := hC.c2
 have HK := St.tbox hK cs
 have HRES : Hid (∀ W, Hid (St w0 W (fun W => TabBox w.heap.size cs W ∧ F W)) → Hid (St w0 W F)) := Lh fun W h => Lh (h.out.weaken fun _ h => h.2)
 clear ht
 have HB1 := Lh (mact_len (HT.out _ HK.out.now.2))
 have HB2 := Lh (mend_len (HT.out _ HK.out.now.2))
 have hln2 := (HT.out _ HK.out.now.2).acts.ln
 have hln3 := (HT.out _ HK.out.now.2).ends.ln
 have p7 := HK.out.now.1.cell1 h257
 go_enter Tryz.func35, Tryz.ntmps35
 go_wp2_with fail
 go_loopw [3, 11] (fun s i wr => ∃ (k n : Nat), k ≤ T.acts.length ∧ i = .int .i64 k ∧ s = .int .i64 (n : Int) ∧ n ≤ 9223372036854775807 ∧ Hid (n = ((T.L.acts.take k).map fun a => a.out.length).foldl max 0) ∧ Hid (St w0 wr (fun W => TabBox w.heap.size cs W ∧ F W))) (fun _ i _ => T.acts.length - (intOf i).toNat)
 case atStart => exact ⟨0, 0, by omega, rfl, rfl, by omega, Lh (by simp), HK⟩
 case round =>
 clear HK p7
 obtain ⟨k, n, hk, rfl, rfl, hn, HN, HK⟩ := hrel
 by_cases hlt : k < T.acts.length
 ·obtain ⟨b, off, q, hA, hx, hw, r0, r1, r2⟩ := (HT.out _ HK.out.now.2).acts.at_ hlt
  rw [hA]
  have hpl := hw.2.ln
  have hxl := actsL_at hx
  obtain ⟨m, hm⟩ : ∃ m : Nat, max n q.o.l.length = m := ⟨_, rfl⟩
  have HN2 : Hid (m = ((T.L.acts.take (k + 1)).map fun a => a.out.length).foldl max 0) := Lh (by
   rw [max_take (fun a : ActL => a.out.length) hxl, ← HN.out, ← hm]
   show _ = max n (q.o.l.map TermI.L).length
   rw [List.length_map])
  have hm1 : m ≤ 9223372036854775807 := by omega
  have hmi : max (n : Int) (q.o.l.length : Int) = (m : Int) := by omega
  have HKn := Lh (HK.out.add (w' := wr.alloc (.cells #[.int .i64 q.e, .int .i64 q.d, .slice q.o.a q.o.l.length q.o.c] 59)) ((Below.refl _ _).alloc (Nat.le_refl _) _) (G := fun _ => True) (fun _ _ => trivial))
  clear hx hw hxl hm hA
  go_wp2_with fail
  exact ⟨⟨k + 1, m, by omega, by go_num, by go_num, hm1, HN2, Lh (HKn.out.weaken fun _ h => h.2)⟩, by simp [intOf]; omega⟩
 obtain rfl : k = T.acts.length := by omega
 have hd : decide (T.acts.length < T.acts.length) = false := by simp
 have HN2 : Hid (n = (T.L.acts.map fun a => a.out.length).foldl max 0) := Lh (by
  have h1 := HN.out
  rwa [← actsL_len, List.take_length] at h1)
 have hn2 := hn
 obtain ⟨n2, hnn⟩ : ∃ n2, n = n2 := ⟨_, rfl⟩
 rw [hnn] at hn2 HN2 ⊢
 clear HN hn hnn n
 have p8 := HK.out.now.1.cell1 h258
 go_wp2_with fail
 clear hd p8
 go_loopw [3, 24] (fun s i wr => ∃ (k n : Nat), k ≤ T.es.length ∧ i = .int .i64 k ∧ s = .int .i64 (n : Int) ∧ n ≤ 9223372036854775807 ∧ Hid (n = ((T.L.ends.take k).map List.length).foldl max n2) ∧ Hid (St w0 wr (fun W => TabBox w.heap.size cs W ∧ F W))) (fun _ i _ => T.es.length - (intOf i).toNat)
 case atStart => exact ⟨0, n2, by omega, rfl, rfl, by omega, Lh (by simp), HK⟩
 case round =>
 clear HK
 obtain ⟨k, n, hk, rfl, rfl, hn, HN, HK⟩ := hrel
 by_cases hlt : k < T.es.length
 ·obtain ⟨b, off, q, hA, hx, hw, r0⟩ := (HT.out _ HK.out.now.2).ends.at_ hlt
  rw [hA]
  have hxl := endsL_at hx
  have hpl := hw.ln
  obtain ⟨m, hm⟩ : ∃ m : Nat, max n q.l.length = m := ⟨_, rfl⟩
  have HN2 : Hid (m = ((T.L.ends.take (k + 1)).map List.length).foldl max n2) := Lh (by
   rw [max_take List.length hxl, ← HN.out, ← hm]
   show _ = max n (q.l.map TermI.L).length
   rw [List.length_map])
  have hm1 : m ≤ 9223372036854775807 := by omega
  have hmi : max (n : Int) (q.l.length : Int) = (m : Int) := by omega
  clear hx hw hxl hm hA
  go_wp2_with fail
  exact ⟨⟨k + 1, m, by omega, by go_num, by go_num, hm1, HN2, HK⟩, by simp [intOf]; omega⟩
 obtain rfl : k = T.es.length := by omega
 have hd : decide (T.es.length < T.es.length) = false := by simp
 have HE : Hid ((n : Int) = v) := Lh (by
  have h1 := HN.out
  rw [← endsL_len, List.take_length, HN2.out] at h1
  have h2 := hv.out
  unfold mostL at h2
  omega)
 go_wp2_with fail
 go_ret
 exact ⟨congrArg (fun u => Ending.returned (.int .i64 u)) HE.out, HRES.out _ HK⟩
end
end
section
theorem heldT_nodes {T : TabI} (h : T.L = heldT) : ∃ a0 c0 a1 c1, T.ns = [⟨0, a0, c0, [-1, 1, -1], 0⟩, ⟨1, a1, c1, [-2, -2, -3], -1⟩] := by
 have h1 : T.ns.map NodeI.L = [⟨0, [-1, 1, -1], 0⟩, ⟨1, [-2, -2, -3], -1⟩] := congrArg TabL.nodes h
 generalize T.ns = l at h1 ⊢
 rcases l with _ | ⟨n0, _ | ⟨n1, _ | ⟨n2, l⟩⟩⟩
 ·simp at h1
 ·simp at h1
 ·obtain ⟨x0, a0, c0, l0, y0⟩ := n0
  obtain ⟨x1, a1, c1, l1, y1⟩ := n1
  simp [NodeI.L] at h1
  obtain ⟨⟨rfl, rfl, rfl⟩, rfl, rfl, rfl⟩ := h1
  exact ⟨a0, c0, a1, c1, rfl⟩
 ·simp at h1
section
variable {w0 w : World} {F : World → Prop}
theorem tab_box17 {W : World} {cs : Array Value} {G : World → Prop} (hK : Hid (St w0 W G)) (z : Array Value) : Hid (St w0 ((W.alloc (.cells z 49)).setRow W.heap.size cs) (fun V => TabBox W.heap.size cs V ∧ G V)) := by
 have hb : Below W.heap.size W ((W.alloc (.cells z 49)).setRow W.heap.size cs) := below_setRow ((Below.refl _ _).alloc (Nat.le_refl _) _) (Nat.le_refl _) _
 exact Lh (hK.out.add hb fun V hV => TabBox.below (setRow_heap _ _ _ _ _ _ (heap_alloc_new W _)) hV)
theorem awake17_st (hK : Hid (St w0 w F)) : Calls Tryz.prog 27 #[] w (RetV w0 (.bool true) F) := by
 obtain ⟨z, hz⟩ : ∃ z, z = zeroT := ⟨_, rfl⟩
 have HZ : Hid ((Tryz.prog.info? 49).map (fun i => i.zero) = some (some (.agg z))) := Lh (by rw [hz]; exact info_tabZ)
 have HZS : Hid (z.size = 259) := Lh (by rw [hz]; exact zeroT_size)
 clear hz
 go_enter Tryz.func27, Tryz.ntmps27
 go_wp2_with fail
 refine (held17_st hK).mono ?_
 rintro e w1 ⟨b, rfl, HK1⟩
 go_wp2_with fail
 refine (compile_st HK1 (heldI b) (fun _ h => h.1) (held_stage b)).mono ?_
 rintro e w2 ⟨cs, T, v, rfl, HTC, HK2, HSD⟩
 obtain ⟨rfl, hT⟩ := held_said (heldI_L b) HSD.out
 have HT := Lh hT
 have HCS : Hid ((Tryz.prog.info? 49).map (·.size) = some cs.size) := Lh (by rw [HTC.out.size]; exact info_tabS)
 have HCZ : Hid (z.size = cs.size) := Lh (by rw [HZS.out, HTC.out.size])
 have HC1 := Lh (cells_one HTC.out)
 have HK3 := tab_box17 (cs := cs) HK2 z
 clear HSD hT
 obtain ⟨w3, hw3⟩ : ∃ z', (w2.alloc (.cells z 49)).setRow w2.heap.size cs = z' := ⟨_, rfl⟩
 rw [hw3] at HK3
 obtain ⟨a0, k0, a1, k1, hns⟩ := heldT_nodes HT.out
 have p256 := HK3.out.now.1.cell1 HTC.out.c1
 have hN := HK3.out.now.2.1.nodes
 rw [hns] at hN p256
 obtain ⟨nb, off, n, hA, hx, hw, -, r1, -⟩ := hN.at_ (j := 0) (by simp)
 obtain ⟨nb', off', n', hA', hx', hw', -, r1', -⟩ := hN.at_ (j := 1) (by simp)
 obtain ⟨rfl, rfl⟩ : nb' = nb ∧ off' = off := by rw [hA] at hA'; injection hA' with h; injection h with h1 h2; exact ⟨h1.symm, h2.symm⟩
 injection hx with hx
 injection hx' with hx'
 subst hx hx'
 rw [hA] at p256
 obtain ⟨ib, ioff, x01, hI, hy, -, s01⟩ := hw.2.at_ (j := 1) (by simp)
 injection hy with hy
 subst hy
 obtain ⟨jb, joff, x10, hJ, hy, -, s10⟩ := hw'.2.at_ (j := 0) (by simp)
 injection hy with hy
 subst hy
 obtain ⟨jb2, joff2, x12, hJ2, hy, -, s12⟩ := hw'.2.at_ (j := 2) (by simp)
 injection hy with hy
 subst hy
 obtain ⟨rfl, rfl⟩ : jb2 = jb ∧ joff2 = joff := by rw [hJ] at hJ2; injection hJ2 with h; injection h with h1 h2; exact ⟨h1.symm, h2.symm⟩
 simp only at hI hJ
 subst hI hJ
 simp only [List.length_cons, List.length_nil] at p256 r1 r1'
 simp only [Nat.one_mul, Nat.zero_mul, Nat.add_zero] at r1 r1' s10
 clear hA hA' hw hw' hN hns hJ2
 go_wp2_with (first
  | (refine wpList_allocZ rfl 49 rfl z HZ.out ?_)
  | (refine wpList_store_row rfl 49 _ _ rfl w2.heap.size cs rfl rfl 49 z (heap_alloc_new w2 _) HCS.out HCZ.out HC1.out ?_))
 clear p256 r1 r1' s01 s10 s12 hw3
 have HCK : Hid (pB (TabOk T.L) = true) := Lh (by rw [HT.out]; exact pB_true heldT_ok)
 have HMO : Hid (mostL T.L = 1) := Lh (by rw [HT.out]; exact held_most)
 refine wp_load_row 49 _ rfl w2.heap.size rfl _ cs _ _ HK3.out.now.1 Tryz.underlying49 rfl HCS.out ?_
 go_wp2_with (go_at_call 33; refine (tCheck_st HK3 cs T HTC.out (fun _ h => h.2.1) true HCK).mono ?_; rintro e w4 ⟨rfl, HK4⟩)
 refine wp_load_row 49 _ rfl w2.heap.size rfl _ cs _ _ HK4.out.now.1 Tryz.underlying49 rfl HCS.out ?_
 go_wp2_with (go_at_call 35; refine (Most_st HK4 cs T HTC.out (fun _ h => h.2.1) 1 HMO).mono ?_; rintro e w5 ⟨rfl, HK5⟩)
 go_ret
 exact ⟨rfl, Lh (HK5.out.weaken fun _ h => h.2.2.2)⟩
end
end
section
section
variable {w0 w : World} {F : World → Prop}
theorem rterms_st {A : Option Addr} {l : List TermI} (hK : Hid (St w0 w F)) (hp : ∀ W, F W → TermsAt A l W) (c : Nat) (n : Int) (v : Bool) (hv : Hid (pB (TermsOk n (l.map TermI.L)) = v)) :
  Calls Tryz.prog 89 #[.slice A l.length c, .int .i64 n] w (RetV w0 (.bool v) F) := by
 have hln := (hp _ hK.out.now).ln
 have HP := Lh hp
 clear hp
 go_enter Tryz.func89, Tryz.ntmps89
 go_wp2_with fail
 go_loopw [5] (fun i wr => ∃ k : Nat, k ≤ l.length ∧ i = .int .i64 k ∧ Hid (TermsTo n l k) ∧ Hid (St w0 wr F)) (fun i _ => l.length - (intOf i).toNat)
 case atStart => exact ⟨0, Nat.zero_le _, rfl, Lh (fun i hi => by simp at hi), hK⟩
 case round =>
 obtain ⟨k, hk, rfl, HR, HK⟩ := hrel
 by_cases hlt : k < l.length
 ·obtain ⟨pb, off, i, rfl, hx, hw, hd0, hd1, hd2, hd3, hd4, hd5⟩ := (HP.out _ HK.out.now).at_ hlt
  have HX := Lh hx
  have HKi := Lh (HK.out.add (Below.refl _ _) (G := PartsAt i.pa i.ps) (fun W hW => hw.2.below hW))
  clear hx hw
  by_cases a2 : TermOk n i.L
  ·have H2 := Lh (pB_true a2)
   have HR2 := Lh (HR.out.next HX.out a2)
   clear a2
   go_wp2_with fail
   refine (rtRight_st HKi (fun _ h => h.1) i.b i.d i.t i.u i.s i.pc n true H2).mono ?_
   rintro e w1 ⟨rfl, HK1⟩
   go_wp2_with fail
   exact ⟨⟨k + 1, by omega, by go_num, HR2, Lh (HK1.out.weaken fun _ h => h.2)⟩, by simp [intOf]; omega⟩
  ·have H2 := Lh (pB_false a2)
   obtain rfl := pB_f hv (fun h => a2 (h _ (List.mem_map.2 ⟨i, List.mem_of_getElem? HX.out, rfl⟩)))
   clear a2
   go_wp2_with fail
   refine (rtRight_st HKi (fun _ h => h.1) i.b i.d i.t i.u i.s i.pc n false H2).mono ?_
   rintro e w1 ⟨rfl, HK1⟩
   go_wp2_with fail
   go_ret
   exact ⟨rfl, Lh (HK1.out.weaken fun _ h => h.2)⟩
 ·obtain rfl : k = l.length := by omega
  have hd : decide (l.length < l.length) = false := by simp
  obtain rfl := pB_t hv HR.out.all
  go_wp2_with fail
  go_ret
  exact ⟨rfl, HK⟩
theorem rnext_st (hK : Hid (St w0 w F)) (cs : Array Value) (T : TabI) (hC : TabC cs T) (ht : ∀ W, F W → TabW T W) (hd0 : Int) (na : Option Addr) (nn nc : Nat) (e x : Int) (v : Bool) (hv : Hid (pB (NextOk T.L hd0 x) = v))
  (hl1 : T.ns.length ≤ 4096) (hl2 : T.acts.length ≤ 4096) (b1 : 0 ≤ hd0) (b2 : hd0 ≤ 4) (hx64 : I64 x) :
  Calls Tryz.prog 90 #[.agg cs, .agg #[.int .i64 hd0, .slice na nn nc, .int .i64 e], .int .i64 x] w (RetV w0 (.bool v) F) := by
 have HT := Lh ht
 have h257 := hC.c2
 have h256 := hC.c1
 have HK1 := St.tbox hK cs
 have HK := St.box HK1 [.int .i64 hd0, .slice na nn nc, .int .i64 e] 64
 have hz : (w.alloc (.cells cs 49)).heap.size = w.heap.size + 1 := by simp
 rw [hz] at HK
 clear ht hz HK1
 have HRES : Hid (∀ W, Hid (St w0 W (fun W => BoxC (w.heap.size + 1) [.int .i64 hd0, .slice na nn nc, .int .i64 e] W ∧ TabBox w.heap.size cs W ∧ F W)) → Hid (St w0 W F)) := Lh fun W h => Lh (h.out.weaken fun _ h => h.2.2)
 by_cases c1 : x = -1
 ·subst c1
  obtain rfl := pB_t hv (.inl rfl)
  go_enter Tryz.func90, Tryz.ntmps90
  go_wp2_with fail
  go_ret
  exact ⟨rfl, HRES.out _ HK⟩
 have c1a : (x == -1) = false := by rw [beq_eq_false_iff_ne]; exact c1
 by_cases c2 : hd0 = 4
 ·obtain rfl := pB_f hv (fun H => by
   rcases H with H | ⟨H, _⟩
   ·exact c1 H
   ·exact H c2)
  have c2a : (hd0 == 4) = true := by rw [beq_iff_eq]; exact c2
  clear c1 c2
  go_enter Tryz.func90, Tryz.ntmps90
  go_wp2_with fail
  go_ret
  exact ⟨rfl, HRES.out _ HK⟩
 have c2a : (hd0 == 4) = false := by rw [beq_eq_false_iff_ne]; exact c2
 have hs : IntKind.i64.wrap (hd0 + 1) = hd0 + 1 := IntWalk.i64_in _ (by omega)
 obtain ⟨q0, q1, q2⟩ := HK.out.now.1.c3
 have p6 := HK.out.now.2.1.cell1 h256
 by_cases c5 : 0 ≤ x
 ·obtain ⟨j, rfl⟩ := Int.eq_ofNat_of_zero_le c5
  by_cases hjl : j < T.ns.length
  ·obtain ⟨qb, qo, q, hB, hq, hqw, r0, r1, r2⟩ := (HT.out _ HK.out.now.2.2).nodes.at_ hjl
   rw [hB] at p6
   have HQ := Lh hq
   have hji : (j : Int) < (T.ns.length : Int) := by omega
   have hg : decide ((j : Int) < (T.ns.length : Int)) = true := decide_eq_true hji
   have hji2 : decide (j < T.ns.length) = true := decide_eq_true hjl
   have hlq := lt_of_cell r0
   have g6 := h256
   rw [hB] at g6
   clear hq hqw c1 r1 r2 c1a h256 q1 q2
   by_cases c6 : q.h = hd0 + 1
   ·obtain rfl := pB_t hv (.inr ⟨c2, .inl ⟨c5, _, nodesL_at HQ.out, c6⟩⟩)
    have c6a : (q.h == hd0 + 1) = true := by rw [beq_iff_eq]; exact c6
    clear c6 c2
    go_enter Tryz.func90, Tryz.ntmps90
    go_wp2_with fail
    go_quiet (fail)
    go_wp2_with fail
    go_ret
    exact ⟨rfl, HRES.out _ (St.hdrewN HK nq)⟩
   ·obtain rfl := pB_f hv (fun H => c6 (next_at (nodesL_at HQ.out) H))
    have c6a : (q.h == hd0 + 1) = false := by rw [beq_eq_false_iff_ne]; exact c6
    clear c6 c2
    go_enter Tryz.func90, Tryz.ntmps90
    go_wp2_with fail
    go_quiet (fail)
    go_wp2_with fail
    go_ret
    exact ⟨rfl, HRES.out _ (St.hdrewN HK nq)⟩
  ·obtain rfl := pB_f hv (fun H => by
    rcases H with H | ⟨_, ⟨_, n, hn, _⟩ | ⟨H, _⟩⟩
    ·exact c1 H
    ·have := (List.getElem?_eq_some_iff.1 hn).1
     rw [nodesL_len, Int.toNat_natCast] at this; omega
    ·omega)
   have hg : decide ((j : Int) < (T.ns.length : Int)) = false := decide_eq_false (by omega)
   have hg2 : decide (j < T.ns.length) = false := decide_eq_false hjl
   clear c1 c1a c2 hjl
   go_enter Tryz.func90, Tryz.ntmps90
   go_wp2_with fail
   go_quiet (fail)
   go_wp2_with fail
   go_ret
   exact ⟨rfl, HRES.out _ (St.hdrewN HK nq)⟩
 have hxm : x ≤ -2 := by omega
 have hxlo := hx64.1
 go_enter Tryz.func90, Tryz.ntmps90
 go_wp2_with fail
 go_loopw [7] (fun i wr => ∃ k : Nat, k ≤ T.acts.length ∧ i = .int .i64 k ∧ Hid (∀ j : Nat, j < k → x ≠ -2 - (j : Int)) ∧ Hid (St w0 wr (fun W => BoxC (w.heap.size + 1) [.int .i64 hd0, .slice na nn nc, .int .i64 e] W ∧ TabBox w.heap.size cs W ∧ F W))) (fun i _ => T.acts.length - (intOf i).toNat)
 case atStart => exact ⟨0, Nat.zero_le _, rfl, Lh (fun j hj => by omega), HK⟩
 case round =>
 clear HK q0 q1 q2 p6
 obtain ⟨k, hk, rfl, HR, HK⟩ := hrel
 obtain ⟨q0, q1, q2⟩ := HK.out.now.1.c3
 have p7 := HK.out.now.2.1.cell1 h257
 by_cases hlt : k < T.acts.length
 ·by_cases c3 : x = -2 - (k : Int)
  ·obtain ⟨ab, ao, a, hB, ha, haw, r0, r1, r2⟩ := (HT.out _ HK.out.now.2.2).acts.at_ hlt
   have HA := Lh ha
   have HJ : Hid (-2 - x = (k : Int)) := Lh (by omega)
   have hji : (k : Int) < (T.acts.length : Int) := by omega
   have hj0 : (0 : Int) ≤ (k : Int) := by omega
   have g7 := h257
   rw [hB] at p7 g7
   have HKo := Lh (HK.out.add (Below.refl _ _) (G := fun W => W.cell? ⟨ab, ao + k * 3, none⟩ = some (.int .i64 a.e) ∧ W.cell? ⟨ab, ao + k * 3 + 2, none⟩ = some (.slice a.o.a a.o.l.length a.o.c) ∧ OutW a.o W)
    (fun W hW => ⟨(hW.cell (p := ⟨ab, ao + k * 3, none⟩) (lt_of_cell r0)).trans r0, (hW.cell (p := ⟨ab, ao + k * 3 + 2, none⟩) (lt_of_cell r2)).trans r2, OutW.stays _ _ _ haw.2 hW⟩))
   have c3a : (x == -2 - (k : Int)) = true := by rw [beq_iff_eq]; exact c3
   clear ha haw c1 c1a hB c5 c3
   by_cases c7 : a.e ≤ hd0 + 1
   ·have hg7 : decide (a.e ≤ hd0 + 1) = true := decide_eq_true c7
    have HVV : Hid (pB (TermsOk (hd0 + 1) (a.o.l.map TermI.L)) = v) := Lh (by
     rw [← hv.out]
     refine pB_congr ⟨fun H => .inr ⟨c2, .inr ⟨hxm, a.L, by rw [HJ.out, Int.toNat_natCast]; exact actsL_at HA.out, c7, H⟩⟩, fun H => (next_act HJ.out (actsL_at HA.out) H).2⟩)
    clear c7 c2
    go_wp2_with fail
    have HK := St.hdrewN HKo 1
    go_region_held3 (fun W => W.cell? ⟨w.heap.size + 1, 0, none⟩ = some (.int .i64 hd0) ∧ W.cell? ⟨w.heap.size, 257, none⟩ = some (.slice (some ⟨ab, ao, none⟩) T.acts.length T.ac) ∧ W.cell? ⟨ab, ao + k * 3, none⟩ = some (.int .i64 a.e) ∧ W.cell? ⟨ab, ao + k * 3 + 2, none⟩ = some (.slice a.o.a a.o.l.length a.o.c))
     (first | exact ⟨HK.out.now.2.1 0 _ rfl, HK.out.now.2.2.1.cell1 g7, HK.out.now.1.1, HK.out.now.1.2.1⟩ | go_keep)
     ((go_at_call 89; refine (rterms_st HK (fun _ h => h.1.2.2) a.o.c (hd0 + 1) v HVV).mono ?_; rintro e5 w5 ⟨rfl, HK⟩))
    go_wp2_with fail
    go_ret
    exact ⟨rfl, HRES.out _ (Lh (HK.out.weaken fun _ h => h.2))⟩
   ·have hg7 : decide (a.e ≤ hd0 + 1) = false := decide_eq_false c7
    obtain rfl := pB_f hv (fun H => c7 (next_act HJ.out (actsL_at HA.out) H).1)
    clear c7 c2
    go_wp2_with fail
    go_quiet (fail)
    go_wp2_with fail
    go_ret
    exact ⟨rfl, HRES.out _ (St.hdrewN HK nq)⟩
  ·have c3a : (x == -2 - (k : Int)) = false := by rw [beq_eq_false_iff_ne]; exact c3
   have HN : Hid (∀ j : Nat, j < k + 1 → x ≠ -2 - (j : Int)) := Lh fun j hj => by
    by_cases e : j = k
    ·subst e; exact c3
    ·exact HR.out j (by omega)
   clear c3 c1 c1a c2 c5
   go_wp2_with fail
   exact ⟨⟨k + 1, by omega, by go_num, HN, HK⟩, by simp [intOf]; omega⟩
 ·obtain rfl : k = T.acts.length := by omega
  have hd : decide (T.acts.length < T.acts.length) = false := by simp
  obtain rfl := pB_f hv (fun H => by
   rcases H with H | ⟨_, ⟨H, _⟩ | ⟨h1, n, hn, _⟩⟩
   ·exact c1 H
   ·omega
   ·have := (List.getElem?_eq_some_iff.1 hn).1
    rw [actsL_len] at this
    exact HR.out (-2 - x).toNat this (by omega))
  clear c1 c1a c2 c5
  go_wp2_with fail
  go_ret
  exact ⟨rfl, HRES.out _ HK⟩
end
end
section
def SoFar (b v : Bool) (P : Prop) : Prop := (b = false ∧ v = false) ∨ (b = true ∧ P)
theorem SoFar.mono {b v : Bool} {P Q : Prop} (h : SoFar b v P) (hq : P → Q) : SoFar b v Q := h.imp id fun h => ⟨h.1, hq h.2⟩
def ClsTo (T : TabL) (K k : Nat) : Prop := 1 ≤ K ∧ K ≤ 256 ∧ ∀ c ∈ T.cls.take k, c < (K : Int)
theorem rangeAt_box {b : Nat} {cs : Array Value} {W : World} (h : TabBox b cs W) : W.rangeAt b 0 cs.toList := fun j u hu => by
 rw [Nat.zero_add]
 exact h.cell1 (by simpa using hu)
section
variable {w0 w : World} {F : World → Prop}
theorem rCheck_st (hK : Hid (St w0 w F)) (cs : Array Value) (T : TabI) (hC : TabC cs T) (ht : ∀ W, F W → TabW T W) (v : Bool) (hv : Hid (pB (TabOk T.L) = v)) :
  Calls Tryz.prog 34 #[.agg cs] w (RetV w0 (.bool v) F) := by
 have HT := Lh ht
 have h258 := hC.c3
 have h257 := hC.c2
 have h256 := hC.c1
 have HK := St.tbox hK cs
 have HRES : Hid (∀ W (G : World → Prop), Hid (St w0 W (fun W => G W ∧ F W)) → Hid (St w0 W F)) := Lh fun W G h => Lh (h.out.weaken fun _ h => h.2)
 have HNO : Hid (¬ TabOk T.L → v = false) := Lh fun H => pB_f hv H
 clear ht
 have hln1 := (HT.out _ HK.out.now.2).nodes.ln
 have hln2 := (HT.out _ HK.out.now.2).acts.ln
 have hln3 := (HT.out _ HK.out.now.2).ends.ln
 by_cases a1 : T.ns.length = 0
 ·obtain rfl := HNO.out (fun H => by
   obtain ⟨n, hn, _⟩ := H.head.2.2.2
   have := (List.getElem?_eq_some_iff.1 hn).1
   rw [nodesL_len] at this; omega)
  have a1' : ((T.ns.length : Int) == 0) = true := by rw [beq_iff_eq]; omega
  clear a1
  go_enter Tryz.func34, Tryz.ntmps34
  go_wp2_with fail
  go_ret
  exact ⟨rfl, HRES.out _ _ HK⟩
 have a1' : ((T.ns.length : Int) == 0) = false := by rw [beq_eq_false_iff_ne]; omega
 by_cases a2 : ¬ T.ns.length ≤ 4096
 ·obtain rfl := HNO.out (fun H => a2 (by have := H.head.1; rwa [nodesL_len] at this))
  have a2' : (4096 : Int) < T.ns.length := by omega
  clear a1 a2
  go_enter Tryz.func34, Tryz.ntmps34
  go_wp2_with fail
  go_ret
  exact ⟨rfl, HRES.out _ _ HK⟩
 by_cases a3 : ¬ T.acts.length ≤ 4096
 ·obtain rfl := HNO.out (fun H => a3 (by have := H.head.2.1; rwa [actsL_len] at this))
  have a3' : (4096 : Int) < T.acts.length := by omega
  clear a1 a2 a3
  go_enter Tryz.func34, Tryz.ntmps34
  go_wp2_with fail
  all_goals (go_ret; exact ⟨rfl, HRES.out _ _ HK⟩)
 by_cases a4 : ¬ T.es.length ≤ 4096
 ·obtain rfl := HNO.out (fun H => a4 (by have := H.head.2.2.1; rwa [endsL_len] at this))
  have a4' : (4096 : Int) < T.es.length := by omega
  clear a1 a2 a3 a4
  go_enter Tryz.func34, Tryz.ntmps34
  go_wp2_with fail
  all_goals (go_ret; exact ⟨rfl, HRES.out _ _ HK⟩)
 have hl1 : T.ns.length ≤ 4096 := by omega
 have hl2 : T.acts.length ≤ 4096 := by omega
 have hl3 : T.es.length ≤ 4096 := by omega
 have hl0 : 0 < T.ns.length := by omega
 clear a1 a2 a3 a4 hln1 hln2 hln3
 obtain ⟨nb, no, n0, hA, hn0, hn0w, r0, r1, r2⟩ := (HT.out _ HK.out.now.2).nodes.at_ hl0
 have g256 := h256
 rw [hA] at g256
 have hln0 := hn0w.2.ln
 rw [Nat.zero_mul, Nat.add_zero] at r0 r1 r2
 have HN0 := Lh hn0
 clear hn0 hn0w
 have hlz : nb < w.heap.size := by
  have hx := (HT.out _ hK.out.now).nodes.at_ hl0
  obtain ⟨nb', no', n0', hA', _, _, r0', _⟩ := hx
  rw [hA] at hA'; injection hA' with hA'; injection hA' with e1 e2; subst e1
  exact lt_of_cell r0'
 by_cases a5 : ¬ n0.h = 0
 ·obtain rfl := HNO.out (fun H => a5 (by
   obtain ⟨n, hn, h1, _⟩ := H.head.2.2.2
   rw [nodesL_at HN0.out] at hn; injection hn with hn; subst hn; exact h1))
  have a5' : (n0.h != 0) = true := by rw [bne_iff_ne]; exact a5
  clear a5
  go_enter Tryz.func34, Tryz.ntmps34
  go_wp2_with fail
  go_ret
  exact ⟨rfl, HRES.out _ _ HK⟩
 have a5 := Classical.not_not.1 a5
 have a5' : (n0.h != 0) = false := by rw [bne_eq_false_iff_eq]; exact a5
 have HA5 := Lh a5
 have HW : Hid (widthL T.L = n0.nx.length) := Lh (widthL_at (nodesL_at HN0.out))
 clear a5
 obtain ⟨K, hKn⟩ : ∃ K, n0.nx.length = K := ⟨_, rfl⟩
 rw [hKn] at HW r1 hln0
 have HKN := Lh hKn
 have HHK : Hid (v = true → 1 ≤ K ∧ K ≤ 256) := Lh (fun H => by
  have H := pB_iff.1 (hv.out.trans H)
  obtain ⟨n, hn, _, h2, h3⟩ := H.head.2.2.2
  rw [nodesL_at HN0.out] at hn; injection hn with hn; subst hn
  have h2' : 1 ≤ n0.nx.length := h2
  have h3' : n0.nx.length ≤ 256 := h3
  rw [HKN.out] at h2' h3'; exact ⟨h2', h3'⟩)
 clear hKn
 go_enter Tryz.func34, Tryz.ntmps34
 go_upto_region 4 with fail
 go_cut [4] (fun s wr => ∃ b : Bool, s = .bool b ∧ Hid (SoFar b v (1 ≤ K ∧ K ≤ 256)) ∧ Hid (St w0 wr (fun W => TabBox w.heap.size cs W ∧ F W)))
 case first =>
  as_aux_lemma =>
   have HVF : Hid (¬ (1 ≤ K ∧ K ≤ 256) → v = false) := Lh fun H => by
    cases v
    ·rfl
    ·exact absurd (HHK.out rfl) H
   by_cases b1 : ¬ (1 : Int) ≤ K
   ·obtain rfl := HVF.out (by omega)
    have b1' : (K : Int) < 1 := by omega
    clear b1
    go_wp2_with fail
    go_meet
    exact ⟨false, rfl, Lh (.inl ⟨rfl, rfl⟩), HK⟩
   have b1 := Classical.not_not.1 b1
   by_cases b2 : (256 : Int) < K
   ·obtain rfl := HVF.out (by omega)
    have b2' : decide ((K : Int) ≤ 256) = false := decide_eq_false (by omega)
    go_wp2_with fail
    go_meet
    exact ⟨false, rfl, Lh (.inl ⟨rfl, rfl⟩), HK⟩
   have b2' : decide ((K : Int) ≤ 256) = true := decide_eq_true (by omega)
   have HH : Hid (1 ≤ K ∧ K ≤ 256) := Lh ⟨by omega, by omega⟩
   go_wp2_with fail
   go_meet
   exact ⟨true, rfl, Lh (.inr ⟨rfl, HH.out⟩), HK⟩
 case rest =>
 clear HK r0 r1 r2 HHK
 obtain ⟨b, rfl, hb, HK⟩ := hcut
 go_upto_block 0 with fail
 go_cut [4] (fun s wr => ∃ b : Bool, s = .bool b ∧ Hid (SoFar b v (HeadK T.L K)) ∧ Hid (St w0 wr (fun W => TabBox w.heap.size cs W ∧ F W)))
 case first =>
  as_aux_lemma =>
   go_wp2_with fail
   go_loopw [4, 5] (fun s i wr => ∃ (b : Bool) (k : Nat), k ≤ 256 ∧ i = .int .i64 k ∧ s = .bool b ∧ Hid (SoFar b v (ClsTo T.L K k)) ∧ Hid (St w0 wr (fun W => TabBox w.heap.size cs W ∧ F W))) (fun _ i _ => 256 - (intOf i).toNat)
   case atStart => exact ⟨b, 0, by omega, rfl, rfl, Lh (hb.out.mono fun h => ⟨h.1, h.2, fun c hc => by simp at hc⟩), HK⟩
   case round =>
   clear HK hb
   obtain ⟨b, k, hk, rfl, rfl, hb, HK⟩ := hrel
   rcases hb.out with ⟨rfl, rfl⟩ | ⟨rfl, hok⟩
   ·clear hb
    by_cases hlt : k < 256
    ·go_wp2_with fail
     go_meet
     exact ⟨false, rfl, Lh (.inl ⟨rfl, rfl⟩), HK⟩
    ·obtain rfl : k = 256 := by omega
     go_wp2_with fail
     go_meet
     exact ⟨false, rfl, Lh (.inl ⟨rfl, rfl⟩), HK⟩
   have HOK := Lh hok
   clear hb hok
   by_cases hlt : k < 256
   ·obtain ⟨c, hc⟩ : ∃ c, T.cls[k]? = some c := ⟨_, List.getElem?_eq_getElem (by rw [hC.ln]; exact hlt)⟩
    have hcc := HK.out.now.1.cell1 (hC.cl k c hc)
    obtain ⟨hc0, hc1⟩ := hC.u8 c (List.mem_of_getElem? hc)
    have HCK := Lh hc
    have hk' : (k : Int) < 256 := by omega
    have hk0 : (0 : Int) ≤ (k : Int) := by omega
    clear hc
    by_cases h1 : c < (K : Int)
    ·have h1' : decide (c < (K : Int)) = true := decide_eq_true h1
     have HN : Hid (ClsTo T.L K (k + 1)) := Lh ⟨HOK.out.1, HOK.out.2.1, fun d hd => by
      have hd' : d ∈ T.cls.take (k + 1) := hd
      rw [take_snoc? HCK.out] at hd'
      rcases List.mem_append.1 hd' with hd' | hd'
      ·exact HOK.out.2.2 d hd'
      ·simp at hd'; subst hd'; exact h1⟩
     clear h1
     go_wp2_with fail
     exact ⟨⟨true, k + 1, by omega, by go_num, rfl, Lh (.inr ⟨rfl, HN.out⟩), HK⟩, by simp [intOf]; omega⟩
    ·have h1' : decide (c < (K : Int)) = false := decide_eq_false h1
     obtain rfl := HNO.out (fun H => h1 (by
      have := H.cls c (List.mem_of_getElem? HCK.out)
      rwa [HW.out] at this))
     clear h1
     go_wp2_with fail
     exact ⟨⟨false, k + 1, by omega, by go_num, rfl, Lh (.inl ⟨rfl, rfl⟩), HK⟩, by simp [intOf]; omega⟩
   ·obtain rfl : k = 256 := by omega
    have HN : Hid (HeadK T.L K) := Lh ⟨HOK.out.1, HOK.out.2.1, by
     have h := HOK.out.2.2
     rw [show (256 : Nat) = T.L.cls.length from hC.ln.symm, List.take_length] at h; exact h⟩
    go_wp2_with fail
    go_meet
    exact ⟨true, rfl, Lh (.inr ⟨rfl, HN.out⟩), HK⟩
 case rest =>
 clear HK hb
 obtain ⟨b, rfl, hb, HK⟩ := hcut
 go_upto_block 2 with fail
 go_cut [4] (fun s wr => ∃ b : Bool, s = .bool b ∧ Hid (SoFar b v (HeadK T.L K ∧ ∀ a ∈ T.L.acts, ActOk T.L a)) ∧ Hid (St w0 wr (fun W => TabBox w.heap.size cs W ∧ F W)))
 case first =>
  as_aux_lemma =>
   go_wp2_with fail
   go_loopw [4, 6] (fun s i wr => ∃ (b : Bool) (k : Nat), k ≤ T.acts.length ∧ i = .int .i64 k ∧ s = .bool b ∧ Hid (SoFar b v (HeadK T.L K ∧ ActsTo T.L T.acts k)) ∧ Hid (St w0 wr (fun W => TabBox w.heap.size cs W ∧ F W))) (fun _ i _ => T.acts.length - (intOf i).toNat)
   case atStart => exact ⟨b, 0, by omega, rfl, rfl, Lh (hb.out.mono fun h => ⟨h, fun c hc => by simp at hc⟩), HK⟩
   case round =>
   clear HK hb
   obtain ⟨b, m, hm, rfl, rfl, hb, HK⟩ := hrel
   have p7 := HK.out.now.1.cell1 h257
   have p6 := HK.out.now.1.cell1 g256
   by_cases hlt : m < T.acts.length
   case neg =>
    obtain rfl : m = T.acts.length := by omega
    have hd : decide (T.acts.length < T.acts.length) = false := by simp
    have HB2 : Hid (SoFar b v (HeadK T.L K ∧ ∀ a ∈ T.L.acts, ActOk T.L a)) := Lh (hb.out.mono fun h => ⟨h.1, h.2.all⟩)
    clear hb
    go_wp2_with fail
    go_meet
    exact ⟨b, rfl, HB2, HK⟩
   rcases hb.out with ⟨rfl, rfl⟩ | ⟨rfl, hok⟩
   ·clear hb
    go_wp2_with fail
    go_meet
    exact ⟨false, rfl, Lh (.inl ⟨rfl, rfl⟩), HK⟩
   have HOK := Lh hok
   clear hb hok
   obtain ⟨ab, ao, a, hB, ha, haw, r0, r1, r2⟩ := (HT.out _ HK.out.now.2).acts.at_ hlt
   have HAC := Lh ha
   have l1 := lt_of_cell r0
   have l2 := lt_of_cell p6
   have HKa := St.box HK [.int .i64 a.e, .int .i64 a.d, .slice a.o.a a.o.l.length a.o.c] 59
   have HNA : Hid (¬ ActOk T.L a.L → v = false) := Lh fun H => HNO.out (fun H2 => H (H2.acts _ (List.mem_map.2 ⟨a, List.mem_of_getElem? HAC.out, rfl⟩)))
   have HYA : Hid (ActOk T.L a.L → ActsTo T.L T.acts (m + 1)) := Lh fun H => HOK.out.2.next HAC.out H
   have HFA : Hid (∀ W, Hid (St w0 W (fun W => BoxC wr.heap.size [.int .i64 a.e, .int .i64 a.d, .slice a.o.a a.o.l.length a.o.c] W ∧ TabBox w.heap.size cs W ∧ F W)) → Hid (St w0 W (fun W => TabBox w.heap.size cs W ∧ F W))) := Lh fun W h => Lh (h.out.weaken fun _ h => h.2)
   rw [hB] at p7
   clear ha haw hB
   by_cases c1 : ¬ 1 ≤ a.e
   ·obtain rfl := HNA.out (fun H => c1 H.1)
    have c1' : a.e < 1 := by omega
    clear c1
    go_wp2_with fail
    exact ⟨⟨false, m + 1, by omega, by go_num, rfl, Lh (.inl ⟨rfl, rfl⟩), HFA.out _ HKa⟩, by simp [intOf]; omega⟩
   have c1 := Classical.not_not.1 c1
   by_cases c2 : ¬ a.e ≤ 4
   ·obtain rfl := HNA.out (fun H => c2 H.2.1)
    have c2' : 4 < a.e := by omega
    have c2a : decide (a.e ≤ 4) = false := decide_eq_false c2
    clear c2
    go_wp2_with fail
    exact ⟨⟨false, m + 1, by omega, by go_num, rfl, Lh (.inl ⟨rfl, rfl⟩), HFA.out _ HKa⟩, by simp [intOf]; omega⟩
   have c2 := Classical.not_not.1 c2
   by_cases c3 : ¬ 0 ≤ a.d
   ·obtain rfl := HNA.out (fun H => c3 H.2.2.1)
    have c3' : a.d < 0 := by omega
    have c3a : decide (0 ≤ a.d) = false := decide_eq_false c3
    clear c3
    go_wp2_with fail
    exact ⟨⟨false, m + 1, by omega, by go_num, rfl, Lh (.inl ⟨rfl, rfl⟩), HFA.out _ HKa⟩, by simp [intOf]; omega⟩
   have c3 := Classical.not_not.1 c3
   by_cases c4 : (T.ns.length : Int) ≤ a.d
   ·obtain rfl := HNA.out (fun H => by
     obtain ⟨n, hn, _⟩ := H.2.2.2.1
     have := (List.getElem?_eq_some_iff.1 hn).1
     rw [nodesL_len] at this
     have e : a.L.dest = a.d := rfl
     rw [e] at this
     omega)
    have c4a : decide (a.d < (T.ns.length : Int)) = false := decide_eq_false (by omega)
    go_wp2_with fail
    exact ⟨⟨false, m + 1, by omega, by go_num, rfl, Lh (.inl ⟨rfl, rfl⟩), HFA.out _ HKa⟩, by simp [intOf]; omega⟩
   have c4 : a.d < (T.ns.length : Int) := by omega
   have c4a : decide (a.d < (T.ns.length : Int)) = true := decide_eq_true c4
   by_cases c6 : ¬ a.o.l.length ≤ 64
   ·obtain rfl := HNA.out (fun H => c6 (by have := H.2.2.2.2; rwa [show a.L.out.length = a.o.l.length from outL_len a.o] at this))
    have c6' : (64 : Int) < a.o.l.length := by omega
    have c6a : decide ((a.o.l.length : Int) ≤ 64) = false := decide_eq_false (by omega)
    clear c6
    go_wp2_with fail
    exact ⟨⟨false, m + 1, by omega, by go_num, rfl, Lh (.inl ⟨rfl, rfl⟩), HFA.out _ HKa⟩, by simp [intOf]; omega⟩
   have c6 := Classical.not_not.1 c6
   have c6a : decide ((a.o.l.length : Int) ≤ 64) = true := decide_eq_true (by omega)
   obtain ⟨j, hj⟩ := Int.eq_ofNat_of_zero_le c3
   have hjl : j < T.ns.length := by omega
   obtain ⟨qb, qo, q, hB2, hq, hqw, s0, s1, s2⟩ := (HT.out _ HK.out.now.2).nodes.at_ hjl
   rw [hA] at hB2
   injection hB2 with hB2
   injection hB2 with e1 e2
   subst e1; subst e2
   have HQN := Lh hq
   have e3 : a.L.dest.toNat = j := by show a.d.toNat = j; rw [hj, Int.toNat_natCast]
   have HE3 := Lh e3
   have l3 := lt_of_cell s0
   have hjb : (j : Int) < (T.ns.length : Int) := by omega
   have hj0 : (0 : Int) ≤ (j : Int) := by omega
   have c4b : decide ((j : Int) < (T.ns.length : Int)) = true := decide_eq_true hjb
   have c4c : decide (j < T.ns.length) = true := decide_eq_true hjl
   clear hq hqw s1 s2 e3 c3 c4 c4a
   rw [hj] at r1
   rw [hj] at HKa HFA
   by_cases c5 : ¬ q.h = 0
   ·obtain rfl := HNA.out (fun H => c5 (by
     obtain ⟨n, hn, h1⟩ := H.2.2.2.1
     rw [HE3.out, nodesL_at HQN.out] at hn; injection hn with hn; subst hn; exact h1))
    have c5' : (q.h == 0) = false := by rw [beq_eq_false_iff_ne]; exact c5
    clear c5 hj
    go_wp2_with fail
    exact ⟨⟨false, m + 1, by omega, by go_num, rfl, Lh (.inl ⟨rfl, rfl⟩), HFA.out _ HKa⟩, by simp [intOf]; omega⟩
   have c5 := Classical.not_not.1 c5
   have c5' : (q.h == 0) = true := by rw [beq_iff_eq]; exact c5
   have HYA2 := Lh (HYA.out ⟨c1, c2, by show 0 ≤ a.d; rw [hj]; exact hj0, ⟨q.L, by rw [HE3.out]; exact nodesL_at HQN.out, c5⟩, by rw [show a.L.out.length = a.o.l.length from outL_len a.o]; exact c6⟩)
   clear c5 hj
   go_wp2_with fail
   exact ⟨⟨true, m + 1, by omega, by go_num, rfl, Lh (.inr ⟨rfl, HOK.out.1, HYA2.out⟩), HFA.out _ HKa⟩, by simp [intOf]; omega⟩
 case rest =>
 clear HK hb
 obtain ⟨b, rfl, hb, HK⟩ := hcut
 go_upto_block 4 with fail
 go_cut [4] (fun s wr => ∃ b : Bool, s = .bool b ∧ Hid (SoFar b v ((HeadK T.L K ∧ ∀ a ∈ T.L.acts, ActOk T.L a) ∧ ∀ l ∈ T.L.ends, l.length ≤ 64)) ∧ Hid (St w0 wr (fun W => TabBox w.heap.size cs W ∧ F W)))
 case first =>
  as_aux_lemma =>
   go_wp2_with fail
   go_loopw [4, 8] (fun s i wr => ∃ (b : Bool) (k : Nat), k ≤ T.es.length ∧ i = .int .i64 k ∧ s = .bool b ∧ Hid (SoFar b v ((HeadK T.L K ∧ ∀ a ∈ T.L.acts, ActOk T.L a) ∧ EndsTo T.es k)) ∧ Hid (St w0 wr (fun W => TabBox w.heap.size cs W ∧ F W))) (fun _ i _ => T.es.length - (intOf i).toNat)
   case atStart => exact ⟨b, 0, by omega, rfl, rfl, Lh (hb.out.mono fun h => ⟨h, fun c hc => by simp at hc⟩), HK⟩
   case round =>
   clear HK hb
   obtain ⟨b, m, hm, rfl, rfl, hb, HK⟩ := hrel
   have p8 := HK.out.now.1.cell1 h258
   by_cases hlt : m < T.es.length
   case neg =>
    obtain rfl : m = T.es.length := by omega
    have hd : decide (T.es.length < T.es.length) = false := by simp
    have HB2 : Hid (SoFar b v ((HeadK T.L K ∧ ∀ a ∈ T.L.acts, ActOk T.L a) ∧ ∀ l ∈ T.L.ends, l.length ≤ 64)) := Lh (hb.out.mono fun h => ⟨h.1, h.2.all⟩)
    clear hb
    go_wp2_with fail
    go_meet
    exact ⟨b, rfl, HB2, HK⟩
   rcases hb.out with ⟨rfl, rfl⟩ | ⟨rfl, hok⟩
   ·clear hb
    go_wp2_with fail
    go_meet
    exact ⟨false, rfl, Lh (.inl ⟨rfl, rfl⟩), HK⟩
   have HOK := Lh hok
   clear hb hok
   obtain ⟨eb, eo, o, hB, ho, how, r0⟩ := (HT.out _ HK.out.now.2).ends.at_ hlt
   have HO := Lh ho
   rw [hB] at p8
   clear ho how hB
   by_cases c6 : ¬ o.l.length ≤ 64
   ·obtain rfl := HNO.out (fun H => c6 (by have := H.ends o.L (List.mem_map.2 ⟨o, List.mem_of_getElem? HO.out, rfl⟩); rwa [outL_len] at this))
    have c6a : decide ((o.l.length : Int) ≤ 64) = false := decide_eq_false (by omega)
    clear c6
    go_wp2_with fail
    exact ⟨⟨false, m + 1, by omega, by go_num, rfl, Lh (.inl ⟨rfl, rfl⟩), HK⟩, by simp [intOf]; omega⟩
   have c6 := Classical.not_not.1 c6
   have c6a : decide ((o.l.length : Int) ≤ 64) = true := decide_eq_true (by omega)
   have HY := Lh (HOK.out.2.next HO.out c6)
   clear c6
   go_wp2_with fail
   exact ⟨⟨true, m + 1, by omega, by go_num, rfl, Lh (.inr ⟨rfl, HOK.out.1, HY.out⟩), HK⟩, by simp [intOf]; omega⟩
 case rest =>
 clear HK hb
 obtain ⟨b, rfl, hb, HK⟩ := hcut
 go_wp2_with fail
 go_loopw [4, 9] (fun s i wr => ∃ (b : Bool) (k : Nat), k ≤ T.ns.length ∧ i = .int .i64 k ∧ s = .bool b ∧ Hid (SoFar b v (((HeadK T.L K ∧ ∀ a ∈ T.L.acts, ActOk T.L a) ∧ ∀ l ∈ T.L.ends, l.length ≤ 64) ∧ NodesTo T.L K T.ns k)) ∧ Hid (St w0 wr (fun W => TabBox w.heap.size cs W ∧ F W))) (fun _ i _ => T.ns.length - (intOf i).toNat)
 case atStart => exact ⟨b, 0, by omega, rfl, rfl, Lh (hb.out.mono fun h => ⟨h, fun c hc => by simp at hc⟩), HK⟩
 case round =>
 clear HK hb
 obtain ⟨b, m, hm, rfl, rfl, hb, HK⟩ := hrel
 have p6 := HK.out.now.1.cell1 g256
 by_cases hlt : m < T.ns.length
 case neg =>
  obtain rfl : m = T.ns.length := by omega
  have hd : decide (T.ns.length < T.ns.length) = false := by simp
  have HB2 : Hid (b = v) := Lh (by
   rcases hb.out with ⟨h1, h2⟩ | ⟨h1, h2⟩
   ·rw [h1, h2]
   ·rw [h1]
    symm
    refine pB_t hv ⟨⟨by rw [nodesL_len]; exact hl1, by rw [actsL_len]; exact hl2, by rw [endsL_len]; exact hl3, n0.L, nodesL_at HN0.out, HA5.out, ?_, ?_⟩, ?_, h2.1.1.2, h2.1.2, ?_⟩
    ·show 1 ≤ n0.nx.length; rw [HKN.out]; exact h2.1.1.1.1
    ·show n0.nx.length ≤ 256; rw [HKN.out]; exact h2.1.1.1.2.1
    ·rw [HW.out]; exact h2.1.1.1.2.2
    ·rw [HW.out]; exact h2.2.all)
  clear hb
  cases b
  ·obtain rfl := HB2.out
   go_wp2_with fail
   go_ret
   exact ⟨rfl, HRES.out _ _ HK⟩
  ·obtain rfl := HB2.out
   go_wp2_with fail
   go_ret
   exact ⟨rfl, HRES.out _ _ HK⟩
 rcases hb.out with ⟨rfl, rfl⟩ | ⟨rfl, hok⟩
 ·clear hb
  go_wp2_with fail
  go_ret
  exact ⟨rfl, HRES.out _ _ HK⟩
 have HOK := Lh hok
 clear hb hok
 obtain ⟨pb, off, ⟨hd0, na, nc, nx, e⟩, hB, hx, hnw, r0, r1, r2⟩ := (HT.out _ HK.out.now.2).nodes.at_ hlt
 rw [hA] at hB
 injection hB with hB
 injection hB with e1 e2
 subst e1; subst e2
 have HX := Lh hx
 simp only at r0 r1 r2
 have hnln := hnw.2.ln
 have HKn := St.box (Lh (HK.out.add (Below.refl _ _) (G := IntsAt na nx) (fun W hW => hnw.2.below hW))) [.int .i64 hd0, .slice na nx.length nc, .int .i64 e] 64
 have HNN : Hid (¬ NodeOk T.L K ⟨hd0, nx, e⟩ → v = false) := Lh fun H => HNO.out (fun H2 => H (by
  have := H2.nodes _ (List.mem_map.2 ⟨_, List.mem_of_getElem? HX.out, rfl⟩)
  rwa [HW.out] at this))
 have HYN : Hid (NodeOk T.L K ⟨hd0, nx, e⟩ → NodesTo T.L K T.ns (m + 1)) := Lh fun H => HOK.out.2.next HX.out H
 have HFN : Hid (∀ W, Hid (St w0 W (fun W => BoxC wr.heap.size [.int .i64 hd0, .slice na nx.length nc, .int .i64 e] W ∧ IntsAt na nx W ∧ TabBox w.heap.size cs W ∧ F W)) → Hid (St w0 W (fun W => TabBox w.heap.size cs W ∧ F W))) := Lh fun W h => Lh (h.out.weaken fun _ h => h.2.2)
 have l1 := lt_of_cell r0
 have p8 := HK.out.now.1.cell1 h258
 have l2 := lt_of_cell p8
 clear hx hnw
 by_cases b1 : ¬ 0 ≤ hd0
 ·obtain rfl := HNN.out (fun H => b1 H.1.1)
  have b1' : hd0 < 0 := by omega
  clear b1
  go_wp2_with fail
  go_ret
  exact ⟨rfl, HRES.out _ _ (HFN.out _ HKn)⟩
 have b1 := Classical.not_not.1 b1
 by_cases b2 : ¬ hd0 ≤ 4
 ·obtain rfl := HNN.out (fun H => b2 H.1.2.1)
  have b2' : 4 < hd0 := by omega
  clear b2
  go_wp2_with fail
  go_ret
  exact ⟨rfl, HRES.out _ _ (HFN.out _ HKn)⟩
 have b2 := Classical.not_not.1 b2
 by_cases b3 : ¬ nx.length = K
 ·obtain rfl := HNN.out (fun H => b3 H.1.2.2.1)
  have b3' : ((nx.length : Int) != (K : Int)) = true := by rw [bne_iff_ne]; omega
  clear b3
  go_wp2_with fail
  go_ret
  exact ⟨rfl, HRES.out _ _ (HFN.out _ HKn)⟩
 have b3 := Classical.not_not.1 b3
 have b3' : ((nx.length : Int) != (K : Int)) = false := by rw [bne_eq_false_iff_eq, b3]
 have HB3 := Lh b3
 have hnK : (nx.length : Int) = K := by omega
 by_cases b4 : ¬ -1 ≤ e
 ·obtain rfl := HNN.out (fun H => b4 H.1.2.2.2.1)
  have b4' : e < -1 := by omega
  clear b4 b3 hnK
  go_wp2_with fail
  go_ret
  exact ⟨rfl, HRES.out _ _ (HFN.out _ HKn)⟩
 have b4 := Classical.not_not.1 b4
 by_cases b5 : ¬ e < (T.es.length : Int)
 ·obtain rfl := HNN.out (fun H => b5 (by have := H.1.2.2.2.2; rw [endsL_len] at this; exact this))
  have b5' : (T.es.length : Int) ≤ e := by omega
  clear b5 b3 hnK
  go_wp2_with fail
  go_ret
  exact ⟨rfl, HRES.out _ _ (HFN.out _ HKn)⟩
 have b5 := Classical.not_not.1 b5
 have HHD : Hid (NodeHead T.L K ⟨hd0, nx, e⟩) := Lh ⟨b1, b2, b3, b4, by rw [endsL_len]; exact b5⟩
 have hKl : K ≤ 256 := HOK.out.1.1.1.2.1
 clear b3 hnK
 go_wp2_with fail
 go_cut [4] (fun s wr' => ∃ b : Bool, s = .bool b ∧ Hid (SoFar b v (EndOk T.L hd0 e)) ∧ Hid (St w0 wr' (fun W => BoxC wr.heap.size [.int .i64 hd0, .slice na nx.length nc, .int .i64 e] W ∧ IntsAt na nx W ∧ TabBox w.heap.size cs W ∧ F W)))
 case first =>
  as_aux_lemma =>
   by_cases b6 : e = -1
   ·have b6a : (e == -1) = true := by rw [beq_iff_eq]; exact b6
    have HEN : Hid (EndOk T.L hd0 e) := Lh (fun h => by omega)
    clear b6 b4 b5
    go_quiet (fail)
    go_wp2_with fail
    go_meet
    exact ⟨true, rfl, Lh (.inr ⟨rfl, HEN.out⟩), St.hdrewN HKn nq⟩
   ·have b6a : (e == -1) = false := by rw [beq_eq_false_iff_ne]; exact b6
    have b60 : 0 ≤ e := by omega
    obtain ⟨j, rfl⟩ := Int.eq_ofNat_of_zero_le b60
    have b5' : j < T.es.length := by omega
    obtain ⟨eb, eo, o, hA2, ho, how, hec⟩ := (HT.out _ HKn.out.now.2.2.2).ends.at_ b5'
    have g258 := h258
    rw [hA2] at g258
    have HO := Lh ho
    have HK := Lh (HKn.out.add (Below.refl _ _) (G := fun W => W.cell? ⟨eb, eo + j, none⟩ = some (.slice o.a o.l.length o.c) ∧ OutW o W) (fun W hW => ⟨(hW.cell (p := ⟨eb, eo + j, none⟩) (lt_of_cell hec)).trans hec, OutW.stays _ _ _ how hW⟩))
    have HK := St.hdrewN HK 1
    clear ho how
    obtain ⟨z, hz, hzv⟩ : ∃ z : Bool, pB (TermsOk hd0 (o.l.map TermI.L)) = z ∧ Hid (SoFar z v (EndOk T.L hd0 (j : Int))) := by
     by_cases a2 : TermsOk hd0 (o.l.map TermI.L)
     ·exact ⟨true, pB_true a2, Lh (.inr ⟨rfl, fun _ => ⟨_, endsL_at HO.out, a2⟩⟩)⟩
     ·refine ⟨false, pB_false a2, Lh (.inl ⟨rfl, HNN.out fun H => a2 ?_⟩)⟩
      obtain ⟨l, h1, h2⟩ := H.2.1 b60
      have h3 := endsL_at HO.out
      have h1' : T.L.ends[j]? = some l := h1
      rw [h1'] at h3; injection h3 with h3; subst h3; exact h2
    have H2 := Lh hz
    clear hz b5 b6 b4
    go_region_held3 (fun W => W.cell? ⟨wr.heap.size, 2, none⟩ = some (.int .i64 j) ∧ W.cell? ⟨wr.heap.size, 0, none⟩ = some (.int .i64 hd0) ∧ W.cell? ⟨w.heap.size, 258, none⟩ = some (.slice (some ⟨eb, eo, none⟩) T.es.length T.ec) ∧ W.cell? ⟨eb, eo + j, none⟩ = some (.slice o.a o.l.length o.c))
     (first | exact ⟨HK.out.now.2.1 2 _ rfl, HK.out.now.2.1 0 _ rfl, HK.out.now.2.2.2.1.cell1 g258, HK.out.now.1.1⟩ | go_keep)
     ((go_at_call 89; refine (rterms_st HK (fun _ h => h.1.2) o.c hd0 z H2).mono ?_; rintro e5 w5 ⟨rfl, HK⟩))
    go_wp2_with fail
    go_meet
    exact ⟨z, rfl, hzv, Lh (HK.out.weaken fun _ h => h.2)⟩
 case rest =>
 clear HKn r0 r1 r2 p8 p6 HK
 obtain ⟨b, rfl, hb, HK⟩ := hcut
 obtain ⟨bb, hbb⟩ : ∃ bb, wr.heap.size = bb := ⟨_, rfl⟩
 rw [hbb] at HK HFN ⊢
 clear hbb l1 l2 b4 b5
 go_wp2_with fail
 go_loopw [4, 11] (fun s i wq => ∃ (b : Bool) (k : Nat), k ≤ K ∧ i = .int .i64 k ∧ s = .bool b ∧ Hid (SoFar b v (EndOk T.L hd0 e ∧ NextsTo T.L hd0 nx k)) ∧ Hid (St w0 wq (fun W => BoxC bb [.int .i64 hd0, .slice na nx.length nc, .int .i64 e] W ∧ IntsAt na nx W ∧ TabBox w.heap.size cs W ∧ F W))) (fun _ i _ => K - (intOf i).toNat)
 case atStart => exact ⟨b, 0, by omega, rfl, rfl, Lh (hb.out.mono fun h => ⟨h, fun c hc => by simp at hc⟩), HK⟩
 case round =>
 clear HK hb
 obtain ⟨b, k, hk, rfl, rfl, hb, HK⟩ := hrel
 by_cases hlt2 : k < K
 case neg =>
  obtain rfl : k = K := by omega
  have hd : decide (k < k) = false := by simp
  have HSF : Hid (SoFar b v (((HeadK T.L k ∧ ∀ a ∈ T.L.acts, ActOk T.L a) ∧ ∀ l ∈ T.L.ends, l.length ≤ 64) ∧ NodesTo T.L k T.ns (m + 1))) := Lh (hb.out.mono fun h => ⟨HOK.out.1, HYN.out ⟨HHD.out, h.1, by
   have h2 := h.2
   rw [← HB3.out] at h2
   exact h2.all⟩⟩)
  clear hb
  go_wp2_with fail
  exact ⟨⟨b, m + 1, by omega, by go_num, rfl, HSF, HFN.out _ HK⟩, by simp [intOf]; omega⟩
 rcases hb.out with ⟨rfl, rfl⟩ | ⟨rfl, hok2⟩
 ·clear hb
  go_wp2_with fail
  exact ⟨⟨false, m + 1, by omega, by go_num, rfl, Lh (.inl ⟨rfl, rfl⟩), HFN.out _ HK⟩, by simp [intOf]; omega⟩
 have HOK2 := Lh hok2
 clear hb hok2
 have hkn : k < nx.length := by have := HB3.out; omega
 obtain ⟨xb, xo, x, hXA, hxk, hx64, hxc⟩ := HK.out.now.2.1.at_ hkn
 have HXK := Lh hxk
 have HX64 := Lh hx64
 obtain ⟨z, hz, hzv⟩ : ∃ z : Bool, pB (NextOk T.L hd0 x) = z ∧ Hid (SoFar z v (EndOk T.L hd0 e ∧ NextsTo T.L hd0 nx (k + 1))) := by
  by_cases a2 : NextOk T.L hd0 x
  ·exact ⟨true, pB_true a2, Lh (.inr ⟨rfl, HOK2.out.1, HOK2.out.2.next HXK.out a2⟩)⟩
  ·exact ⟨false, pB_false a2, Lh (.inl ⟨rfl, HNN.out fun H => a2 (H.2.2 x (List.mem_of_getElem? HXK.out))⟩)⟩
 have H2 := Lh hz
 have hki : (k : Int) < (nx.length : Int) := by omega
 have hk0 : (0 : Int) ≤ (k : Int) := by omega
 have hu := Tryz.underlying49
 have hin : (Tryz.prog.info? 49).map (·.size) = some cs.toList.length := by rw [Array.length_toList, hC.size]; kernel_rfl
 have hsub : Hid (na = some ⟨xb, xo, none⟩) := Lh hXA
 have HKx := Lh (HK.out.add (Below.refl _ _) (G := fun W => W.cell? ⟨xb, xo + k, none⟩ = some (.int .i64 x)) (fun W hW => (hW.cell (p := ⟨xb, xo + k, none⟩) (lt_of_cell hxc)).trans hxc))
 have HK := St.hdrewN HKx 1
 clear hz hxk hx64 hXA HKx
 go_wp2_with fail
 have hca : cs.toList.toArray = cs := Array.toArray_toList
 refine wp_region_held_drew (by kernel_rfl) (S := fun W => W.rangeAt w.heap.size 0 cs.toList ∧ W.cell? ⟨bb, 0, none⟩ = some (.int .i64 hd0) ∧ W.cell? ⟨bb, 1, none⟩ = some (.slice (some ⟨xb, xo, none⟩) nx.length nc) ∧ W.cell? ⟨bb, 2, none⟩ = some (.int .i64 e) ∧ W.cell? ⟨xb, xo + k, none⟩ = some (.int .i64 x))
  ⟨rangeAt_box HK.out.now.2.2.2.1, HK.out.now.2.1 0 _ rfl, (HK.out.now.2.1 1 _ rfl).trans (by rw [hsub.out]), HK.out.now.2.1 2 _ rfl, HK.out.now.1⟩ (fun hHeld => ?_)
 refine wpAnyH_take (i := 0) (v := .agg cs.toList.toArray) rfl (by kernel_rfl) (by kernel_rfl) (by kernel_rfl) (fun _ _ _ h => h) (yieldsIf_load_mid (by rfl) _ _ rfl _ _ rfl cs.toList _ (fun w hw => hw.1) hu rfl hin) (by assumption) ?_
 rw [hca]
 (try simp only [Act.put, List.setIfInBounds_toArray, List.set_cons_zero, List.set_cons_succ])
 refine wpAnyH_take (i := 1) (v := ?_) rfl (by kernel_rfl) (by kernel_rfl) (by kernel_rfl) (fun _ _ _ h => h) (Or.inl ⟨by first | kernel_rfl | rfl, ?_⟩) (by assumption) ?_
 rotate_left
 ·intro w hSw; (try dsimp only at hSw); go_simp; (try with_reducible rfl)
 (try simp only [Act.put, zq1, zq2, zq3, zq4, zq5, zq6])
 refine wpAnyH_take (i := 2) (v := ?_) rfl (by kernel_rfl) (by kernel_rfl) (by kernel_rfl) (fun _ _ _ h => h) (Or.inl ⟨by first | kernel_rfl | rfl, ?_⟩) (by assumption) ?_
 rotate_left
 ·intro w hSw; (try dsimp only at hSw); go_simp; (try with_reducible rfl)
 (try simp only [Act.put, zq1, zq2, zq3, zq4, zq5, zq6])
 refine wpAnyH_take (i := 3) (v := ?_) rfl (by kernel_rfl) (by kernel_rfl) (by kernel_rfl) (fun _ _ _ h => h) (Or.inl ⟨by first | kernel_rfl | rfl, ?_⟩) (by assumption) ?_
 rotate_left
 ·intro w hSw; (try dsimp only at hSw); go_simp; (try with_reducible rfl)
 (try simp only [Act.put, zq1, zq2, zq3, zq4, zq5, zq6])
 refine wpAnyH_take (i := 4) (v := ?_) rfl (by kernel_rfl) (by kernel_rfl) (by kernel_rfl) (fun _ _ _ h => h) (Or.inl ⟨by first | kernel_rfl | rfl, ?_⟩) (by assumption) ?_
 rotate_left
 ·intro w hSw; (try dsimp only at hSw); go_simp; (try with_reducible rfl)
 (try simp only [Act.put, zq1, zq2, zq3, zq4, zq5, zq6])
 refine wpAnyH_take (i := 5) (v := ?_) rfl (by kernel_rfl) (by kernel_rfl) (by kernel_rfl) (fun _ _ _ h => h) (Or.inl ⟨by first | kernel_rfl | rfl, ?_⟩) (by assumption) ?_
 rotate_left
 ·intro w hSw; (try dsimp only at hSw); go_simp; (try with_reducible rfl)
 (try simp only [Act.put, zq1, zq2, zq3, zq4, zq5, zq6])
 refine wpAnyH_take (i := 6) (v := ?_) rfl (by kernel_rfl) (by kernel_rfl) (by kernel_rfl) (fun _ _ _ h => h) (Or.inl ⟨by first | kernel_rfl | rfl, ?_⟩) (by assumption) ?_
 rotate_left
 ·intro w hSw; (try dsimp only at hSw); go_simp; (try with_reducible rfl)
 (try simp only [Act.put, zq1, zq2, zq3, zq4, zq5, zq6])
 refine wpAnyH_ready (rs := [7]) (by kernel_rfl) (by simp) (AllReadyH.cons rfl (fun K hK => ?_) AllReadyH.nil)
 go_simp
 refine (rnext_st HK cs T hC (fun _ h => HT.out _ h.2.2.2.2) hd0 (some ⟨xb, xo, none⟩) nx.length nc e x z H2 hl1 hl2 b1 b2 HX64.out).mono ?_
 rintro e5 w5 ⟨rfl, HK⟩
 refine hK.out _ _ (⟨rangeAt_box HK.out.now.2.2.2.1, HK.out.now.2.1 0 _ rfl, (HK.out.now.2.1 1 _ rfl).trans (by rw [hsub.out]), HK.out.now.2.1 2 _ rfl, HK.out.now.1⟩) (fun hHeld => ?_)
 clear hK K
 (try simp only [Act.put, zq1, zq2, zq3, zq4, zq5, zq6])
 refine wpAnyH_take (i := 8) (v := ?_) rfl (by kernel_rfl) (by kernel_rfl) (by kernel_rfl) (fun _ _ _ h => h) (Or.inl ⟨by first | kernel_rfl | rfl, ?_⟩) (by assumption) ?_
 rotate_left
 ·intro w hSw; (try dsimp only at hSw); go_simp; (try with_reducible rfl)
 (try simp only [Act.put, zq1, zq2, zq3, zq4, zq5, zq6])
 refine wpAnyH_done (by kernel_rfl) ?_ _
 go_wp2_with fail
 exact ⟨⟨z, k + 1, by omega, by go_num, rfl, hzv, Lh (HK.out.weaken fun _ h => h.2)⟩, by simp [intOf]; omega⟩
end
end
end Go.Proofs.YtlmkokeapbleoaaGreat
