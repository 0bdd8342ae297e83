/- Contract of table.node. Condition: the table is known. Contract of table.Check. Condition: the table is known. Contract of table.Check. Condition: the table is known. Contract of table.Most. Condition: the table is known. Contract of umlautlaw17.awake: the example holds. Condition: none. Words for drivers in memory: a driver's cells; what is known while blocks of drivers are written. No function of the program in sight. Condition: none. A driver's literal: its cells are the table's, then the node, what is held, the state. No function of the program in sight. Condition: the table has 259 cells. A row of records of the call's own, whose records get new lists one behind the other. No function of the program in sight. Condition: none. Contract of drive.own: terms in memory of their own. Condition: the terms are known. Contracts of umlautref17.size and Small: is a table not too great. Condition: the table is known. A region that draws its order and whose last operations, from z on, wait for all the others: what must hold for its loads need not hold behind those (S2: what holds behind all). Two operations may come up at once. An append of one record at any world. Condition: the operations from z on wait for each one that is taken first. -/
import Derived.Test.YtlmkokeapbleoaaGreatM15
import Derived.Deep.RegionHeld3
import Derived.Deep.DeepCutAuto
import Derived.Lib.MinMax
import Derived.Deep.QuietTactic
import Derived.Test.YtlmkokeapbleoaaGreatM13
import Derived.Test.YtlmkokeapbleoaaGreatM05
import Derived.Test.YtlmkokeapbleoaaGreatM01
import Derived.Laws.Tables
import Derived.Test.YtlmkokeapbleoaaGreatM07
import Derived.Laws.OwnMore
section
namespace Go.Proofs.YtlmkokeapbleoaaGreat
open Go.RowKit
set_option linter.unusedVariables false
set_option linter.unusedSimpArgs false

/-- a table's own block -/
def TabBox (b : Nat) (cs : Array Value) (W : World) : Prop := W.heap[b]? = some (.cells cs 49 (0, 0))
theorem TabBox.below {b : Nat} {cs : Array Value} {W W' : World} (h : TabBox b cs W) (hb : Below W.heap.size W W') : TabBox b cs W' :=
  (hb.block b (by unfold TabBox at h; exact (Array.getElem?_eq_some_iff.1 h).1)).trans h
theorem TabBox.cell {b : Nat} {cs : Array Value} {W : World} (h : TabBox b cs W) (i : Nat) : W.cell? ⟨b, i, none⟩ = cs[i]? := by
  unfold TabBox at h; simp [World.cell?, h]
theorem TabBox.cell1 {b : Nat} {cs : Array Value} {W : World} (h : TabBox b cs W) {i : Nat} {v : Value} (hv : cs[i]? = some v) : W.cell? ⟨b, i, none⟩ = some v := (h.cell i).trans hv
theorem St.tbox {w0 w : World} {F : World → Prop} (hK : Hid (St w0 w F)) (cs : Array Value) : Hid (St w0 (w.alloc (.cells cs 49)) (fun W => TabBox w.heap.size cs W ∧ F W)) :=
  Lib.hid (hK.out.add ((Below.refl _ _).alloc (Nat.le_refl _) _) fun W hW => TabBox.below (heap_alloc_new w _) hW)
theorem nodesL_at {T : TabI} {j : Nat} {q : NodeI} (h : T.ns[j]? = some q) : T.L.nodes[j]? = some q.L := by
  show (T.ns.map NodeI.L)[j]? = _
  rw [List.getElem?_map, h]; rfl
theorem actsL_at {T : TabI} {j : Nat} {q : ActI} (h : T.acts[j]? = some q) : T.L.acts[j]? = some q.L := by
  show (T.acts.map ActI.L)[j]? = _
  rw [List.getElem?_map, h]; rfl
theorem endsL_at {T : TabI} {j : Nat} {q : OutI} (h : T.es[j]? = some q) : T.L.ends[j]? = some q.L := by
  show (T.es.map OutI.L)[j]? = _
  rw [List.getElem?_map, h]; rfl
theorem nodesL_len (T : TabI) : T.L.nodes.length = T.ns.length := List.length_map _
theorem actsL_len (T : TabI) : T.L.acts.length = T.acts.length := List.length_map _
theorem endsL_len (T : TabI) : T.L.ends.length = T.es.length := List.length_map _
def NextsTo (T : TabL) (h : Int) (l : List Int) (k : Nat) : Prop := ∀ x ∈ l.take k, NextOk T h x
theorem NextsTo.all {T : TabL} {h : Int} {l : List Int} (H : NextsTo T h l l.length) : ∀ x ∈ l, NextOk T h x := fun x hx => H x (by rwa [List.take_length])
theorem NextsTo.next {T : TabL} {h : Int} {l : List Int} {k : Nat} {x : Int} (H : NextsTo T h l k) (hx : l[k]? = some x) (hi : NextOk T h x) : NextsTo T h l (k + 1) := fun q hq => by
  rw [take_snoc? hx] at hq
  rcases List.mem_append.1 hq with hq | hq
  · exact H q hq
  · simp at hq; subst hq; exact hi
def EndOk (T : TabL) (h e : Int) : Prop := 0 ≤ e → ∃ l, T.ends[e.toNat]? = some l ∧ TermsOk h l
theorem next_at {T : TabL} {h : Int} {j : Nat} {q : NodeL} (hq : T.nodes[j]? = some q) (hx : NextOk T h (j : Int)) : q.held = h + 1 := by
  rcases hx with hx | ⟨_, ⟨_, n, hn, h1⟩ | ⟨h1, _⟩⟩
  · omega
  · rw [Int.toNat_natCast, hq] at hn; injection hn with hn; subst hn; exact h1
  · omega
theorem next_act {T : TabL} {h x : Int} {j : Nat} {a : ActL} (hj : -2 - x = (j : Int)) (ha : T.acts[j]? = some a) (hx : NextOk T h x) : a.eat ≤ h + 1 ∧ TermsOk (h + 1) a.out := by
  rcases hx with hx | ⟨_, ⟨h1, _⟩ | ⟨_, n, hn, h1⟩⟩
  · omega
  · omega
  · rw [hj, Int.toNat_natCast, ha] at hn; injection hn with hn; subst hn; exact h1

section
variable {w0 w : World} {F : World → Prop}
set_option maxRecDepth 100000 in
set_option maxHeartbeats 64000000 in
theorem node_st (hK : Hid (St w0 w F)) (cs : Array Value) (T : TabI) (hC : TabC cs T) (ht : ∀ W, F W → TabW T W) (n : NodeI) (hn : ∀ W, F W → NodeW n W) (k : Nat) (v : Bool) (hv : Hid (pB (NodeOk T.L k n.L) = v))
    (hl1 : T.ns.length ≤ 4096) (hl2 : T.acts.length ≤ 4096) (hl3 : T.es.length ≤ 4096) (hl4 : k ≤ 256) :
    Calls Tryz.prog 88 #[.agg cs, .agg #[.int .i64 n.h, .slice n.na n.nx.length n.nc, .int .i64 n.e], .int .i64 k] w (RetV w0 (.bool v) F) := by
  have HT := Lib.hid ht
  have HN := Lib.hid hn
  have h258 := hC.c3
  have h257 := hC.c2
  have h256 := hC.c1
  have HK1 := St.tbox hK cs
  have HK := St.box HK1 [.int .i64 n.h, .slice n.na n.nx.length n.nc, .int .i64 n.e] 64
  have hz : (w.alloc (.cells cs 49)).heap.size = w.heap.size + 1 := by simp
  rw [hz] at HK
  clear ht hn hz HK1
  obtain ⟨hd0, na, nc, nx, e⟩ := n
  simp only at HK ⊢
  have hres : ∀ W, Hid (St w0 W (fun W => BoxC (w.heap.size + 1) [.int .i64 hd0, .slice na nx.length nc, .int .i64 e] W ∧ TabBox w.heap.size cs W ∧ F W)) → Hid (St w0 W F) := fun W h => Lib.hid (h.out.weaken fun _ h => h.2.2)
  have HRES := Lib.hid hres
  clear hres
  by_cases b1 : 0 ≤ hd0
  case neg =>
    obtain rfl := pB_f hv (fun H => b1 H.1.1)
    go_enter Tryz.func88, Tryz.ntmps88
    go_wp2_with fail
    go_ret
    exact ⟨rfl, HRES.out _ HK⟩
  by_cases b2 : hd0 ≤ 4
  case neg =>
    obtain rfl := pB_f hv (fun H => b2 H.1.2.1)
    go_enter Tryz.func88, Tryz.ntmps88
    go_wp2_with fail
    go_ret
    exact ⟨rfl, HRES.out _ HK⟩
  by_cases b3 : (nx.length : Int) = k
  case neg =>
    obtain rfl := pB_f hv (fun H => b3 (by have := H.1.2.2.1; exact_mod_cast this))
    go_enter Tryz.func88, Tryz.ntmps88
    go_wp2_with fail
    go_ret
    exact ⟨rfl, HRES.out _ HK⟩
  obtain rfl : nx.length = k := by omega
  by_cases b4 : -1 ≤ e
  case neg =>
    obtain rfl := pB_f hv (fun H => b4 H.1.2.2.2.1)
    clear b3
    go_enter Tryz.func88, Tryz.ntmps88
    go_wp2_with fail
    go_ret
    exact ⟨rfl, HRES.out _ HK⟩
  by_cases b5 : e < (T.es.length : Int)
  case neg =>
    obtain rfl := pB_f hv (fun H => b5 (by have := H.1.2.2.2.2; rw [endsL_len] at this; exact this))
    clear b3
    go_enter Tryz.func88, Tryz.ntmps88
    go_wp2_with fail
    go_ret
    exact ⟨rfl, HRES.out _ HK⟩
  have HHD : Hid (NodeHead T.L nx.length ⟨hd0, nx, e⟩) := Lib.hid ⟨b1, b2, rfl, b4, by rw [endsL_len]; exact b5⟩
  clear b3
  go_enter Tryz.func88, Tryz.ntmps88
  go_wp2_with fail
  have q3 := HK.out.now.2.1.cell1 h258
  obtain ⟨q0, q1, q2⟩ := HK.out.now.1.c3
  go_cut [52] (fun s wr => ∃ b : Bool, s = .bool b ∧ Hid ((b = true ∧ v = false) ∨ (b = false ∧ EndOk T.L hd0 e)) ∧ Hid (St w0 wr (fun W => BoxC (w.heap.size + 1) [.int .i64 hd0, .slice na nx.length nc, .int .i64 e] W ∧ TabBox w.heap.size cs W ∧ F W)))
  case first =>
    by_cases b6 : 0 ≤ e
    · obtain ⟨j, rfl⟩ := Int.eq_ofNat_of_zero_le b6
      have b5' : j < T.es.length := by omega
      obtain ⟨eb, eo, o, hA, ho, how, hec⟩ := (HT.out _ HK.out.now.2.2).ends.at_ b5'
      have g258 := h258
      rw [hA] at g258 q3
      have HO := Lib.hid ho
      have HK := Lib.hid (HK.out.add (Below.refl _ _) (G := fun W => W.cell? ⟨eb, eo + j, none⟩ = some (.slice o.a o.l.length o.c) ∧ OutW o W) (fun W hW => ⟨(hW.cell (p := ⟨eb, eo + j, none⟩) (lt_of_cell hec)).trans hec, OutW.stays _ _ _ how hW⟩))
      have HK := St.hdrewN HK 1
      clear ho how
      obtain ⟨z, hz, hzv⟩ : ∃ z : Bool, pB (TermsOk hd0 (o.l.map TermI.L)) = z ∧ Hid ((!z) = true ∧ v = false ∨ (!z) = false ∧ EndOk T.L hd0 (j : Int)) := by
        by_cases a2 : TermsOk hd0 (o.l.map TermI.L)
        · exact ⟨true, pB_true a2, Lib.hid (.inr ⟨rfl, fun _ => ⟨_, endsL_at HO.out, a2⟩⟩)⟩
        · refine ⟨false, pB_false a2, Lib.hid (.inl ⟨rfl, pB_f hv fun H => a2 ?_⟩)⟩
          obtain ⟨l, h1, h2⟩ := H.2.1 b6
          have h3 := endsL_at HO.out
          have h1' : T.L.ends[j]? = some l := h1
          rw [h1'] at h3; injection h3 with h3; subst h3; exact h2
      have H2 := Lib.hid hz
      clear hz b5
      go_region_held3 (fun W => W.cell? ⟨w.heap.size + 1, 2, none⟩ = some (.int .i64 j) ∧ W.cell? ⟨w.heap.size + 1, 0, none⟩ = some (.int .i64 hd0) ∧ W.cell? ⟨w.heap.size, 258, none⟩ = some (.slice (some ⟨eb, eo, none⟩) T.es.length T.ec) ∧ W.cell? ⟨eb, eo + j, none⟩ = some (.slice o.a o.l.length o.c))
        (first | exact ⟨HK.out.now.2.1 2 _ rfl, HK.out.now.2.1 0 _ rfl, HK.out.now.2.2.1.cell1 g258, HK.out.now.1.1⟩ | go_keep)
        ((go_at_call 132; refine (right_st HK (fun _ h => h.1.2) o.c hd0 z H2).mono ?_; rintro e5 w5 ⟨rfl, HK⟩))
      go_wp2_with fail
      go_meet
      exact ⟨!z, rfl, hzv, Lib.hid (HK.out.weaken fun _ h => h.2)⟩
    · have hg : decide (0 ≤ e) = false := decide_eq_false b6
      have HEN : Hid (EndOk T.L hd0 e) := Lib.hid (fun h => absurd h b6)
      go_quiet (fail)
      go_wp2_with fail
      go_meet
      exact ⟨false, rfl, Lib.hid (.inr ⟨rfl, HEN.out⟩), St.hdrewN HK nq⟩
  case rest =>
  clear HK q0 q1 q2 q3
  obtain ⟨b, rfl, hb, HK⟩ := hcut
  rcases hb.out with ⟨rfl, rfl⟩ | ⟨rfl, hen⟩
  · clear hb
    go_wp2_with fail
    go_ret
    exact ⟨rfl, HRES.out _ HK⟩
  have HEN := Lib.hid hen
  obtain ⟨q0, q1, q2⟩ := HK.out.now.1.c3
  clear hb hen q0 q2 b4 b5
  go_wp2_with fail
  go_loopw [56] (fun i wr => ∃ m : Nat, m ≤ nx.length ∧ i = .int .i64 m ∧ Hid (NextsTo T.L hd0 nx m) ∧ Hid (St w0 wr (fun W => BoxC (w.heap.size + 1) [.int .i64 hd0, .slice na nx.length nc, .int .i64 e] W ∧ TabBox w.heap.size cs W ∧ F W))) (fun i _ => nx.length - (intOf i).toNat)
  case atStart => exact ⟨0, Nat.zero_le _, rfl, Lib.hid (fun x hx => by simp at hx), HK⟩
  case round =>
  clear HK q1
  obtain ⟨m, hm, rfl, HR, HK⟩ := hrel
  by_cases hlt : m < nx.length
  · obtain ⟨q0, q1, q2⟩ := HK.out.now.1.c3
    have p6 := HK.out.now.2.1.cell1 h256
    have p7 := HK.out.now.2.1.cell1 h257
    obtain ⟨nb, no, x, hA, hx, hix, hxc⟩ := (HN.out _ HK.out.now.2.2).2.at_ hlt
    simp only at hA
    subst hA
    have HX := Lib.hid hx
    have HNO : Hid (¬ NextOk T.L hd0 x → v = false) := Lib.hid fun H => pB_f hv (fun H2 => H (H2.2.2 x (List.mem_of_getElem? HX.out)))
    have HYE : Hid (NextOk T.L hd0 x → NextsTo T.L hd0 nx (m + 1)) := Lib.hid fun H => HR.out.next HX.out H
    clear hx hix hm HX HR
    by_cases c1 : x = -1
    · subst c1
      have hg : decide ((0 : Int) ≤ -1) = false := by decide
      have HYE2 := Lib.hid (HYE.out (.inl rfl))
      go_wp2_with fail
      go_quiet (fail)
      go_wp2_with fail
      exact ⟨⟨m + 1, by omega, by go_num, HYE2, St.hdrewN HK nq⟩, by simp [intOf]; omega⟩
    have c1a : (x == -1) = false := by rw [beq_eq_false_iff_ne]; exact c1
    have c1b : (x != -1) = true := by rw [bne_iff_ne]; exact c1
    by_cases c3 : (T.ns.length : Int) ≤ x
    · obtain rfl := HNO.out (fun H => by
        rcases H with H | ⟨_, ⟨_, n, hn, _⟩ | ⟨H, _⟩⟩
        · exact c1 H
        · have := (List.getElem?_eq_some_iff.1 hn).1
          rw [nodesL_len] at this; omega
        · omega)
      clear c1 c1a c1b
      go_wp2_with fail
      go_ret
      exact ⟨rfl, HRES.out _ HK⟩
    by_cases c4 : x < -1 - (T.acts.length : Int)
    · obtain rfl := HNO.out (fun H => by
        rcases H with H | ⟨_, ⟨_, n, hn, _⟩ | ⟨_, n, hn, _⟩⟩
        · exact c1 H
        · omega
        · have := (List.getElem?_eq_some_iff.1 hn).1
          rw [actsL_len] at this; omega)
      clear c1 c1a c1b
      go_wp2_with fail
      go_ret
      exact ⟨rfl, HRES.out _ HK⟩
    by_cases c2 : hd0 = 4
    · obtain rfl := HNO.out (fun H => by
        rcases H with H | ⟨H, _⟩
        · exact c1 H
        · exact H c2)
      have c2a : (hd0 == 4) = true := by rw [beq_iff_eq]; exact c2
      clear c1 c2
      go_wp2_with fail
      go_ret
      exact ⟨rfl, HRES.out _ HK⟩
    have c2a : (hd0 == 4) = false := by rw [beq_eq_false_iff_ne]; exact c2
    have hs : IntKind.i64.wrap (hd0 + 1) = hd0 + 1 := IntWalk.i64_in _ (by omega)
    by_cases c5 : 0 ≤ x
    · obtain ⟨j, rfl⟩ := Int.eq_ofNat_of_zero_le c5
      have hjl : j < T.ns.length := by omega
      obtain ⟨qb, qo, q, hB, hq, hqw, r0, r1, r2⟩ := (HT.out _ HK.out.now.2.2).nodes.at_ hjl
      have p6' := p6
      rw [hB] at p6'
      have HQ := Lib.hid hq
      have hg : decide ((0 : Int) ≤ (j : Int)) = true := decide_eq_true c5
      have hji : (j : Int) < (T.ns.length : Int) := by omega
      clear p6 hq hqw c1 r1 r2 c1a
      by_cases c6 : q.h = hd0 + 1
      · have HYE2 := Lib.hid (HYE.out (.inr ⟨c2, .inl ⟨c5, _, nodesL_at HQ.out, c6⟩⟩))
        have c6a : (q.h != hd0 + 1) = false := by rw [bne_eq_false_iff_eq]; exact c6
        clear c6 c2 c3 hjl
        go_wp2_with fail
        go_quiet (fail)
        go_wp2_with fail
        exact ⟨⟨m + 1, by omega, by go_num, HYE2, St.hdrewN HK nq⟩, by simp [intOf]; omega⟩
      · obtain rfl := HNO.out (fun H => c6 (next_at (nodesL_at HQ.out) H))
        have c6a : (q.h != hd0 + 1) = true := by rw [bne_iff_ne]; exact c6
        clear c6 c2 c3 hjl
        go_wp2_with fail
        go_quiet (fail)
        go_wp2_with fail
        go_ret
        exact ⟨rfl, HRES.out _ (St.hdrewN HK nq)⟩
    · obtain ⟨j, hj⟩ := Int.eq_ofNat_of_zero_le (show 0 ≤ -2 - x by omega)
      have hjl : j < T.acts.length := by omega
      obtain ⟨ab, ao, a, hB, ha, haw, r0, r1, r2⟩ := (HT.out _ HK.out.now.2.2).acts.at_ hjl
      have p7' := p7
      rw [hB] at p7'
      have HA := Lib.hid ha
      have HJ := Lib.hid hj
      have hg : decide ((0 : Int) ≤ x) = false := decide_eq_false c5
      have hx2 : x < -1 := by omega
      have hji : (j : Int) < (T.acts.length : Int) := by omega
      have hj0 : (0 : Int) ≤ (j : Int) := by omega
      clear p7 ha c1 c1a c5
      have HKo := Lib.hid (HK.out.add (Below.refl _ _) (G := OutW a.o) (fun W hW => OutW.stays _ _ _ haw.2 hW))
      clear haw
      go_wp2_with fail
      go_quiet (fail)
      have HKd := St.hdrewN HKo nq
      generalize hW2 : wr.drewN nq = W2 at HKd ⊢
      have e0 : ∀ p, W2.cell? p = wr.cell? p := fun p => by rw [← hW2]; rfl
      rw [← e0] at q0 q1 p7' r0 r1 r2
      have l0 := lt_of_cell q0
      have l1 : w.heap.size < W2.heap.size := by omega
      clear e0 hW2 q2 p6
      have HK := St.box HKd [.int .i64 a.e, .int .i64 a.d, .slice a.o.a a.o.l.length a.o.c] 59
      by_cases c7 : a.e ≤ hd0 + 1
      · by_cases a2 : TermsOk (hd0 + 1) (a.o.l.map TermI.L)
        · have H2 := Lib.hid (pB_true a2)
          have HYE2 := Lib.hid (HYE.out (.inr ⟨c2, .inr ⟨by omega, a.L, by rw [HJ.out, Int.toNat_natCast]; exact actsL_at HA.out, c7, a2⟩⟩))
          clear a2 c2
          go_wp2_with fail
          refine (right_st HK (fun _ h => h.2.1) a.o.c (hd0 + 1) true H2).mono ?_
          rintro e5 w5 ⟨rfl, HK⟩
          go_wp2_with fail
          exact ⟨⟨m + 1, by omega, by go_num, HYE2, Lib.hid (HK.out.weaken fun _ h => h.2.2)⟩, by simp [intOf]; omega⟩
        · have H2 := Lib.hid (pB_false a2)
          obtain rfl := HNO.out (fun H => a2 (next_act HJ.out (actsL_at HA.out) H).2)
          clear a2 c2
          go_wp2_with fail
          refine (right_st HK (fun _ h => h.2.1) a.o.c (hd0 + 1) false H2).mono ?_
          rintro e5 w5 ⟨rfl, HK⟩
          go_wp2_with fail
          go_ret
          exact ⟨rfl, HRES.out _ (Lib.hid (HK.out.weaken fun _ h => h.2.2))⟩
      · obtain rfl := HNO.out (fun H => c7 (next_act HJ.out (actsL_at HA.out) H).1)
        clear c2
        go_wp2_with fail
        go_ret
        exact ⟨rfl, HRES.out _ (Lib.hid (HK.out.weaken fun _ h => h.2.2))⟩
  · obtain rfl : m = nx.length := by omega
    have hd : decide (nx.length < nx.length) = false := by simp
    obtain rfl := pB_t hv ⟨HHD.out, HEN.out, HR.out.all⟩
    go_wp2_with fail
    go_ret
    exact ⟨rfl, HRES.out _ HK⟩
end
end Go.Proofs.YtlmkokeapbleoaaGreat
end
section
namespace Go.Proofs.YtlmkokeapbleoaaGreat
open Go.RowKit
set_option linter.unusedVariables false
set_option linter.unusedSimpArgs false

def NodesTo (T : TabL) (k : Nat) (l : List NodeI) (m : Nat) : Prop := ∀ i ∈ l.take m, NodeOk T k i.L
theorem NodesTo.all {T : TabL} {k : Nat} {l : List NodeI} (h : NodesTo T k l l.length) : ∀ n ∈ l.map NodeI.L, NodeOk T k n := fun t ht => by
  obtain ⟨i, hi, rfl⟩ := List.mem_map.1 ht
  exact h i (by rwa [List.take_length])
theorem NodesTo.next {T : TabL} {k : Nat} {l : List NodeI} {m : Nat} {i : NodeI} (h : NodesTo T k l m) (hx : l[m]? = some i) (hi : NodeOk T k i.L) : NodesTo T k l (m + 1) := fun q hq => by
  rw [take_snoc? hx] at hq
  rcases List.mem_append.1 hq with hq | hq
  · exact h q hq
  · simp at hq; subst hq; exact hi
theorem NodeW.below {n : NodeI} {w w' : World} (h : NodeW n w) (hb : Below w.heap.size w w') : NodeW n w' := NodeW.stays _ _ _ h hb
/-- all nodes are right -/
def NodesOk (T : TabL) (k : Nat) : Prop := ∀ n ∈ T.nodes, NodeOk T k n
section
variable {w0 w : World} {F : World → Prop}
set_option maxRecDepth 100000 in
set_option maxHeartbeats 16000000 in
theorem check1_st (hK : Hid (St w0 w F)) (cs : Array Value) (T : TabI) (hC : TabC cs T) (ht : ∀ W, F W → TabW T W) (n : NodeI) (hn : ∀ W, F W → NodeW n W) (tb kb : Nat) (k : Nat)
    (htb : ∀ W, F W → TabBox tb cs W) (hkb : ∀ W, F W → BoxC kb [.int .i64 (k : Int)] W) (v : Bool) (hv : Hid (pB (NodeOk T.L k n.L) = v))
    (hl1 : T.ns.length ≤ 4096) (hl2 : T.acts.length ≤ 4096) (hl3 : T.es.length ≤ 4096) (hl4 : k ≤ 256) :
    Calls Tryz.prog 87 #[.agg #[.int .i64 n.h, .slice n.na n.nx.length n.nc, .int .i64 n.e], .pointer (some ⟨tb, 0, none⟩), .pointer (some ⟨kb, 0, none⟩)] w (RetV w0 (.bool (!v)) F) := by
  have HK := St.box hK [.int .i64 n.h, .slice n.na n.nx.length n.nc, .int .i64 n.e] 64
  have HN := Lib.hid hn
  have HT := Lib.hid ht
  have hc := hkb _ HK.out.now.2 0 _ rfl
  have hh := htb _ HK.out.now.2
  have hin : (Tryz.prog.info? 49).map (·.size) = some cs.size := by rw [hC.size]; kernel_rfl
  have HH := Lib.hid hh
  have HI := Lib.hid hin
  clear hn ht hkb htb hh hin
  go_enter Tryz.func87, Tryz.ntmps87
  go_wp2_with (refine wpList_load_row rfl 49 _ rfl tb rfl _ cs _ _ HH.out Tryz.underlying49 rfl HI.out ?_)
  refine (node_st HK cs T hC (fun _ h => HT.out _ h.2) n (fun _ h => HN.out _ h.2) k v hv hl1 hl2 hl3 hl4).mono ?_
  rintro e w1 ⟨rfl, HK1⟩
  cases v
  all_goals
    go_wp2_with fail
    go_ret
    exact ⟨rfl, Lib.hid (HK1.out.weaken fun _ h => h.2)⟩
set_option maxRecDepth 100000 in
set_option maxHeartbeats 16000000 in
theorem indexN_st (hK : Hid (St w0 w F)) (cs : Array Value) (T : TabI) (hC : TabC cs T) (ht : ∀ W, F W → TabW T W) (tb kb : Nat) (k : Nat)
    (htb : ∀ W, F W → TabBox tb cs W) (hkb : ∀ W, F W → BoxC kb [.int .i64 (k : Int)] W) (v : Bool) (hv : Hid (pB (NodesOk T.L k) = v))
    (hl1 : T.ns.length ≤ 4096) (hl2 : T.acts.length ≤ 4096) (hl3 : T.es.length ≤ 4096) (hl4 : k ≤ 256) :
    Calls Tryz.prog 131 #[.slice T.na T.ns.length T.nc, .func (.func 87) #[] #[.pointer (some ⟨tb, 0, none⟩), .pointer (some ⟨kb, 0, none⟩)]] w (RetIx w0 v F) := by
  have HT := Lib.hid ht
  have HTB := Lib.hid htb
  have HKB := Lib.hid hkb
  clear ht htb hkb
  go_enter Tryz.func131, Tryz.ntmps131
  go_wp2_with fail
  go_loopw [8] (fun i wr => ∃ m : Nat, m ≤ T.ns.length ∧ i = .int .i64 m ∧ Hid (NodesTo T.L k T.ns m) ∧ Hid (St w0 wr F)) (fun i _ => T.ns.length - (intOf i).toNat)
  case atStart => exact ⟨0, Nat.zero_le _, rfl, Lib.hid (fun i hi => by simp at hi), hK⟩
  case round =>
  obtain ⟨m, hm, rfl, HR, HK⟩ := hrel
  by_cases hlt : m < T.ns.length
  · obtain ⟨pb, off, n, hA, hx, hw, hd0, hd1, hd2⟩ := (HT.out _ HK.out.now).nodes.at_ hlt
    have HX := Lib.hid hx
    have HKi := Lib.hid (HK.out.add (Below.refl _ _) (G := NodeW n) (fun W hW => hw.below hW))
    rw [hA]
    clear hx hw
    by_cases a2 : NodeOk T.L k n.L
    · have H2 := Lib.hid (pB_true a2)
      have HR2 := Lib.hid (HR.out.next HX.out a2)
      clear a2
      go_wp2_with fail
      refine (check1_st HKi cs T hC (fun _ h => HT.out _ h.2) n (fun _ h => h.1) tb kb k (fun _ h => HTB.out _ h.2) (fun _ h => HKB.out _ h.2) true H2 hl1 hl2 hl3 hl4).mono ?_
      rintro e w1 ⟨rfl, HK1⟩
      go_wp2_with fail
      exact ⟨⟨m + 1, by omega, by go_num, HR2, Lib.hid (HK1.out.weaken fun _ h => h.2)⟩, by simp [intOf]; omega⟩
    · have H2 := Lib.hid (pB_false a2)
      obtain rfl := pB_f hv (fun h => a2 (h _ (List.mem_map.2 ⟨n, List.mem_of_getElem? HX.out, rfl⟩)))
      clear a2
      go_wp2_with fail
      refine (check1_st HKi cs T hC (fun _ h => HT.out _ h.2) n (fun _ h => h.1) tb kb k (fun _ h => HTB.out _ h.2) (fun _ h => HKB.out _ h.2) false H2 hl1 hl2 hl3 hl4).mono ?_
      rintro e w1 ⟨rfl, HK1⟩
      go_wp2_with fail
      go_ret
      exact ⟨m, rfl, .inr ⟨rfl, by omega⟩, Lib.hid (HK1.out.weaken fun _ h => h.2)⟩
  · obtain rfl : m = T.ns.length := by omega
    have hd : decide (T.ns.length < T.ns.length) = false := by simp
    obtain rfl := pB_t hv HR.out.all
    go_wp2_with fail
    go_ret
    exact ⟨-1, rfl, .inl ⟨rfl, rfl⟩, HK⟩
set_option maxHeartbeats 16000000 in
theorem containsN_st (hK : Hid (St w0 w F)) (cs : Array Value) (T : TabI) (hC : TabC cs T) (ht : ∀ W, F W → TabW T W) (tb kb : Nat) (k : Nat)
    (htb : ∀ W, F W → TabBox tb cs W) (hkb : ∀ W, F W → BoxC kb [.int .i64 (k : Int)] W) (v : Bool) (hv : Hid (pB (NodesOk T.L k) = v))
    (hl1 : T.ns.length ≤ 4096) (hl2 : T.acts.length ≤ 4096) (hl3 : T.es.length ≤ 4096) (hl4 : k ≤ 256) :
    Calls Tryz.prog 86 #[.slice T.na T.ns.length T.nc, .func (.func 87) #[] #[.pointer (some ⟨tb, 0, none⟩), .pointer (some ⟨kb, 0, none⟩)]] w (RetV w0 (.bool (!v)) F) := by
  have HT := Lib.hid ht
  have HTB := Lib.hid htb
  have HKB := Lib.hid hkb
  clear ht htb hkb
  go_enter Tryz.func86, Tryz.ntmps86
  go_wp2_with fail
  refine (indexN_st hK cs T hC HT.out tb kb k HTB.out HKB.out v hv hl1 hl2 hl3 hl4).mono ?_
  rintro e w1 ⟨r, rfl, hr, HK1⟩
  rcases hr with ⟨rfl, rfl⟩ | ⟨rfl, hr⟩
  all_goals
    go_wp2_with fail
    go_ret
    exact ⟨rfl, HK1⟩

/-- the greatest of some numbers from 0 on -/
def maxL (l : List Int) : Int := l.foldl max 0
theorem maxL_snoc (l : List Int) (x : Int) : maxL (l ++ [x]) = max (maxL l) x := by unfold maxL; rw [List.foldl_append]; rfl
theorem maxL_bd {l : List Int} (h : U8s l) : 0 ≤ maxL l ∧ maxL l < 256 := by
  have : ∀ (l : List Int) (a : Int), U8s l → 0 ≤ a ∧ a < 256 → 0 ≤ l.foldl max a ∧ l.foldl max a < 256 := by
    intro l
    induction l with
    | nil => intro a _ ha; exact ha
    | cons x l ih => intro a hl ha; have := hl x (by simp); exact ih _ (fun y hy => hl y (by simp [hy])) (by omega)
  exact this l 0 h (by omega)
theorem maxL_lt (l : List Int) (k : Int) (hk : 0 < k) : maxL l < k ↔ ∀ c ∈ l, c < k := by
  have : ∀ (l : List Int) (a : Int), l.foldl max a < k ↔ a < k ∧ ∀ c ∈ l, c < k := by
    intro l
    induction l with
    | nil => intro a; simp
    | cons x l ih =>
      intro a
      rw [List.foldl_cons, ih]
      simp only [List.mem_cons, forall_eq_or_imp]
      constructor
      · rintro ⟨h1, h2⟩; exact ⟨by omega, by omega, h2⟩
      · rintro ⟨h1, h2, h3⟩; exact ⟨by omega, h3⟩
  unfold maxL
  rw [this]
  exact ⟨fun h => h.2, fun h => ⟨hk, h⟩⟩
set_option maxRecDepth 100000 in
set_option maxHeartbeats 16000000 in
theorem maxU8_any (tb : Nat) (l : List Int) (hu : U8s l) (hl : l.length = 256) (w : World) (hc : ∀ (i : Nat) (x : Int), l[i]? = some x → w.cell? ⟨tb, i, none⟩ = some (.int .u8 x)) :
    Calls Tryz.prog 85 #[.slice (some ⟨tb, 0, none⟩) 256 256] w fun e w' => e = .returned (.int .u8 (maxL l)) ∧ w = w' := by
  have HC := Lib.hid hc
  have HU := Lib.hid hu
  have HL := Lib.hid hl
  obtain ⟨x0, hx0⟩ : ∃ x, l[0]? = some x := ⟨_, List.getElem?_eq_getElem (by omega)⟩
  have h0 := hc 0 _ hx0
  have HX0 := Lib.hid hx0
  clear hc hu hl hx0
  go_enter Tryz.func85, Tryz.ntmps85
  go_wp2_with fail
  go_loop [3, 4] (fun mv iv => ∃ (k : Nat) (m : Int), 1 ≤ k ∧ k ≤ 256 ∧ iv = .int .i64 k ∧ mv = .int .u8 m ∧ Hid (m = maxL (l.take k))) (fun _ iv => 256 - (intOf iv).toNat)
  case atStart => exact ⟨1, x0, Nat.le_refl _, by omega, rfl, rfl, Lib.hid (by
    rw [take_snoc? HX0.out, maxL_snoc]
    have := HU.out x0 (List.mem_of_getElem? HX0.out)
    simp only [List.take_zero, maxL, List.foldl_nil]; omega)⟩
  case round =>
  clear h0
  obtain ⟨k, m, hk1, hk, rfl, rfl, HM⟩ := hrel
  by_cases hlt : k < 256
  · obtain ⟨x, hx⟩ : ∃ x, l[k]? = some x := ⟨_, List.getElem?_eq_getElem (by rw [HL.out]; exact hlt)⟩
    have hcx := HC.out k _ hx
    have HN : Hid (max m x = maxL (l.take (k + 1))) := Lib.hid (by rw [take_snoc? hx, maxL_snoc, HM.out])
    clear hx
    go_wp2_with fail
    go_round
    case rel => exact ⟨k + 1, max m x, by omega, by omega, by go_num, rfl, HN⟩
    case measure => simp [intOf]; omega
  · obtain rfl : k = 256 := by omega
    have HE : Hid (m = maxL l) := Lib.hid (by rw [HM.out, ← HL.out, List.take_length])
    go_wp2_with fail
    go_ret
    exact ⟨congrArg (fun u => Ending.returned (.int .u8 u)) HE.out, rfl⟩
end
end Go.Proofs.YtlmkokeapbleoaaGreat
end
section
namespace Go.Proofs.YtlmkokeapbleoaaGreat
open Go.RowKit
set_option linter.unusedVariables false
set_option linter.unusedSimpArgs false
def ActsTo (T : TabL) (l : List ActI) (m : Nat) : Prop := ∀ i ∈ l.take m, ActOk T i.L
theorem ActsTo.all {T : TabL} {l : List ActI} (h : ActsTo T l l.length) : ∀ n ∈ l.map ActI.L, ActOk T n := fun t ht => by
  obtain ⟨i, hi, rfl⟩ := List.mem_map.1 ht
  exact h i (by rwa [List.take_length])
theorem ActsTo.next {T : TabL} {l : List ActI} {m : Nat} {i : ActI} (h : ActsTo T l m) (hx : l[m]? = some i) (hi : ActOk T i.L) : ActsTo T l (m + 1) := fun q hq => by
  rw [take_snoc? hx] at hq
  rcases List.mem_append.1 hq with hq | hq
  · exact h q hq
  · simp at hq; subst hq; exact hi
def EndsTo (l : List OutI) (m : Nat) : Prop := ∀ i ∈ l.take m, i.l.length ≤ 64
theorem EndsTo.all {l : List OutI} (h : EndsTo l l.length) : ∀ n ∈ l.map OutI.L, n.length ≤ 64 := fun t ht => by
  obtain ⟨i, hi, rfl⟩ := List.mem_map.1 ht
  have := h i (by rwa [List.take_length])
  simpa [OutI.L] using this
theorem EndsTo.next {l : List OutI} {m : Nat} {i : OutI} (h : EndsTo l m) (hx : l[m]? = some i) (hi : i.l.length ≤ 64) : EndsTo l (m + 1) := fun q hq => by
  rw [take_snoc? hx] at hq
  rcases List.mem_append.1 hq with hq | hq
  · exact h q hq
  · simp at hq; subst hq; exact hi
theorem outL_len (o : OutI) : o.L.length = o.l.length := List.length_map _
def HeadK (T : TabL) (K : Nat) : Prop := 1 ≤ K ∧ K ≤ 256 ∧ ∀ c ∈ T.cls, c < K
section
variable {w0 w : World} {F : World → Prop}
set_option maxRecDepth 100000 in
set_option maxHeartbeats 64000000 in
theorem tCheck_st (hK : Hid (St w0 w F)) (cs : Array Value) (T : TabI) (hC : TabC cs T) (ht : ∀ W, F W → TabW T W) (v : Bool) (hv : Hid (pB (TabOk T.L) = v)) :
    Calls Tryz.prog 33 #[.agg cs] w (RetV w0 (.bool v) F) := by
  have HT := Lib.hid ht
  have h258 := hC.c3
  have h257 := hC.c2
  have h256 := hC.c1
  have HK := St.tbox hK cs
  have HRES : Hid (∀ W (G : World → Prop), Hid (St w0 W (fun W => G W ∧ F W)) → Hid (St w0 W F)) := Lib.hid fun W G h => Lib.hid (h.out.weaken fun _ h => h.2)
  have HNO : Hid (¬ TabOk T.L → v = false) := Lib.hid fun H => pB_f hv H
  clear ht
  have hln1 := (HT.out _ HK.out.now.2).nodes.ln
  have hln2 := (HT.out _ HK.out.now.2).acts.ln
  have hln3 := (HT.out _ HK.out.now.2).ends.ln
  by_cases a1 : T.ns.length = 0
  · obtain rfl := HNO.out (fun H => by
      obtain ⟨n, hn, _⟩ := H.head.2.2.2
      have := (List.getElem?_eq_some_iff.1 hn).1
      rw [nodesL_len] at this; omega)
    have a1' : (T.ns.length : Int) < 1 := by omega
    clear a1
    go_enter Tryz.func33, Tryz.ntmps33
    go_wp2_with fail
    go_ret
    exact ⟨rfl, HRES.out _ _ HK⟩
  by_cases a2 : ¬ T.ns.length ≤ 4096
  · obtain rfl := HNO.out (fun H => a2 (by have := H.head.1; rwa [nodesL_len] at this))
    have a2' : (4096 : Int) < T.ns.length := by omega
    clear a1 a2
    go_enter Tryz.func33, Tryz.ntmps33
    go_wp2_with fail
    go_ret
    exact ⟨rfl, HRES.out _ _ HK⟩
  by_cases a3 : ¬ T.acts.length ≤ 4096
  · obtain rfl := HNO.out (fun H => a3 (by have := H.head.2.1; rwa [actsL_len] at this))
    have a3' : (4096 : Int) < T.acts.length := by omega
    clear a1 a2 a3
    go_enter Tryz.func33, Tryz.ntmps33
    go_wp2_with fail
    all_goals (go_ret; exact ⟨rfl, HRES.out _ _ HK⟩)
  by_cases a4 : ¬ T.es.length ≤ 4096
  · obtain rfl := HNO.out (fun H => a4 (by have := H.head.2.2.1; rwa [endsL_len] at this))
    have a4' : (4096 : Int) < T.es.length := by omega
    clear a1 a2 a3 a4
    go_enter Tryz.func33, Tryz.ntmps33
    go_wp2_with fail
    all_goals (go_ret; exact ⟨rfl, HRES.out _ _ HK⟩)
  have hl1 : T.ns.length ≤ 4096 := by omega
  have hl2 : T.acts.length ≤ 4096 := by omega
  have hl3 : T.es.length ≤ 4096 := by omega
  have hl0 : 0 < T.ns.length := by omega
  clear a1 a2 a3 a4 hln1 hln2 hln3
  obtain ⟨nb, no, n0, hA, hn0, hn0w, r0, r1, r2⟩ := (HT.out _ HK.out.now.2).nodes.at_ hl0
  have g256 := h256
  rw [hA] at g256
  have hln0 := hn0w.2.ln
  rw [Nat.zero_mul, Nat.add_zero] at r0 r1 r2
  have HN0 := Lib.hid hn0
  have HR1 : Hid (∀ W, F W → W.cell? ⟨nb, no + 1, none⟩ = some (.slice n0.na n0.nx.length n0.nc)) := Lib.hid fun W hW => by
    obtain ⟨nb', no', n0', hA', hn0', _, _, r1', _⟩ := (HT.out _ hW).nodes.at_ hl0
    rw [hA] at hA'; injection hA' with hA'; injection hA' with e1 e2; subst e1; subst e2
    rw [hn0] at hn0'; injection hn0' with hn0'; subst hn0'
    rw [Nat.zero_mul, Nat.add_zero] at r1'; exact r1'
  clear hn0 hn0w
  have hlz : nb < w.heap.size := by
    have hx := (HT.out _ hK.out.now).nodes.at_ hl0
    obtain ⟨nb', no', n0', hA', _, _, r0', _⟩ := hx
    rw [hA] at hA'; injection hA' with hA'; injection hA' with e1 e2; subst e1
    exact lt_of_cell r0'
  by_cases a5 : ¬ n0.h = 0
  · obtain rfl := HNO.out (fun H => a5 (by
      obtain ⟨n, hn, h1, _⟩ := H.head.2.2.2
      rw [nodesL_at HN0.out] at hn; injection hn with hn; subst hn; exact h1))
    have a5' : (n0.h != 0) = true := by rw [bne_iff_ne]; exact a5
    clear a5
    go_enter Tryz.func33, Tryz.ntmps33
    go_wp2_with fail
    go_ret
    exact ⟨rfl, HRES.out _ _ HK⟩
  have a5 := Classical.not_not.1 a5
  have a5' : (n0.h != 0) = false := by rw [bne_eq_false_iff_eq]; exact a5
  have HA5 := Lib.hid a5
  have HW : Hid (widthL T.L = n0.nx.length) := Lib.hid (widthL_at (nodesL_at HN0.out))
  have hw0 : (w.alloc (.cells cs 49)).heap.size = w.heap.size + 1 := by simp
  have HKk := St.box HK [.int .i64 (n0.nx.length : Int)] 3
  rw [hw0] at HKk
  clear a5 hw0
  obtain ⟨K, hKn⟩ : ∃ K, n0.nx.length = K := ⟨_, rfl⟩
  rw [hKn] at HW HKk r1 HR1
  have HKN := Lib.hid hKn
  obtain ⟨M, hM⟩ : ∃ M, maxL T.cls = M := ⟨_, rfl⟩
  have hMb := maxL_bd hC.u8
  rw [hM] at hMb
  have HM := Lib.hid hM
  have HQ : Hid (∀ n, Calls Tryz.prog 85 #[.slice (some ⟨w.heap.size, 0, none⟩) 256 256] (((w.alloc (.cells cs 49)).alloc (.cells #[.int .i64 (K : Int)] 3)).drewN n) fun e w'' => e = .returned (.int .u8 M) ∧ ∃ m, w'' = ((w.alloc (.cells cs 49)).alloc (.cells #[.int .i64 (K : Int)] 3)).drewN m) := Lib.hid fun n => by
    have h := maxU8_any w.heap.size T.cls hC.u8 hC.ln (((w.alloc (.cells cs 49)).alloc (.cells #[.int .i64 (K : Int)] 3)).drewN n) (fun i x hx => HKk.out.now.2.1.cell1 (hC.cl i x hx))
    rw [hM] at h
    exact h.mono fun e w'' ⟨h1, h2⟩ => ⟨h1, n, h2.symm⟩
  have HMK : Hid (1 ≤ K → (M < (K : Int) ↔ ∀ c ∈ T.L.cls, c < (K : Int))) := Lib.hid fun h => by rw [← HM.out]; exact maxL_lt T.cls K (by omega)
  clear hM hKn
  obtain ⟨hM0, hM1⟩ := hMb
  have hKb : K ≤ 9223372036854775807 := by rw [← HKN.out]; exact hln0
  clear hln0
  have r1' : w.cell? ⟨nb, no + 1, none⟩ = some (.slice n0.na K n0.nc) := HR1.out w hK.out.now
  go_enter Tryz.func33, Tryz.ntmps33
  go_wp2_with fail
  go_cut [57] (fun s wr => ∃ b : Bool, s = .bool b ∧ Hid ((b = true ∧ v = false) ∨ (b = false ∧ HeadK T.L K)) ∧ Hid (St w0 wr (fun W => BoxC (w.heap.size + 1) [.int .i64 (K : Int)] W ∧ TabBox w.heap.size cs W ∧ F W)))
  case first =>
    have hkc := HKk.out.now.1 0 _ rfl
    by_cases b1 : (K : Int) < 1
    · have g1 : decide ((K : Int) < 1) = true := decide_eq_true b1
      have HV : Hid (v = false) := Lib.hid (HNO.out (fun H => by
        obtain ⟨n, hn, _, h2, _⟩ := H.head.2.2.2
        rw [nodesL_at HN0.out] at hn; injection hn with hn; subst hn
        have h3 : 1 ≤ n0.nx.length := h2
        rw [HKN.out] at h3; omega))
      clear b1 HQ
      go_quiet (fail)
      go_wp2_with fail
      go_meet
      exact ⟨true, rfl, Lib.hid (.inl ⟨rfl, HV.out⟩), St.hdrewN HKk nq⟩
    have g1 : decide ((K : Int) < 1) = false := decide_eq_false b1
    by_cases b2 : (256 : Int) < K
    · have g2 : decide ((256 : Int) < (K : Int)) = true := decide_eq_true b2
      have HV : Hid (v = false) := Lib.hid (HNO.out (fun H => by
        obtain ⟨n, hn, _, _, h2⟩ := H.head.2.2.2
        rw [nodesL_at HN0.out] at hn; injection hn with hn; subst hn
        have h3 : n0.nx.length ≤ 256 := h2
        rw [HKN.out] at h3; omega))
      clear b1 b2 HQ
      go_quiet (fail)
      go_wp2_with fail
      go_meet
      exact ⟨true, rfl, Lib.hid (.inl ⟨rfl, HV.out⟩), St.hdrewN HKk nq⟩
    have g2 : decide ((256 : Int) < (K : Int)) = false := decide_eq_false b2
    have hmk := HMK.out (by omega)
    by_cases b3 : (K : Int) ≤ M
    · have g3 : decide ((K : Int) ≤ M) = true := decide_eq_true b3
      have HV : Hid (v = false) := Lib.hid (HNO.out (fun H => by
        have h3 := H.cls
        rw [HW.out] at h3
        have := hmk.2 h3
        omega))
      clear b1 b2 b3 hmk
      go_quiet ((go_at_call 85; exact HQ.out _))
      go_wp2_with fail
      go_meet
      exact ⟨true, rfl, Lib.hid (.inl ⟨rfl, HV.out⟩), St.hdrewN HKk nq⟩
    · have g3 : decide ((K : Int) ≤ M) = false := decide_eq_false b3
      have HH : Hid (HeadK T.L K) := Lib.hid ⟨by omega, by omega, hmk.1 (by omega)⟩
      clear b1 b2 b3 hmk
      go_quiet ((go_at_call 85; exact HQ.out _))
      go_wp2_with fail
      go_meet
      exact ⟨false, rfl, Lib.hid (.inr ⟨rfl, HH.out⟩), St.hdrewN HKk nq⟩
  case rest =>
  clear HQ HMK HKk r0 r1 r2 r1' HK
  obtain ⟨b, rfl, hb, HK⟩ := hcut
  rcases hb.out with ⟨rfl, rfl⟩ | ⟨rfl, hen⟩
  · clear hb
    go_wp2_with fail
    go_ret
    exact ⟨rfl, Lib.hid (HK.out.weaken fun _ h => h.2.2)⟩
  have HEN := Lib.hid hen
  have q7 := HK.out.now.2.1.cell1 h257
  clear hb hen
  have hfin : ∀ W, Hid (St w0 W (fun W => BoxC (w.heap.size + 1) [.int .i64 (K : Int)] W ∧ TabBox w.heap.size cs W ∧ F W)) → Hid (St w0 W F) := fun W h => Lib.hid (h.out.weaken fun _ h => h.2.2)
  have HF := Lib.hid hfin
  have hlw : w.heap.size < w.heap.size + 1 := by omega
  clear hfin
  go_wp2_with fail
  go_loopw [61] (fun i wr => ∃ m : Nat, m ≤ T.acts.length ∧ i = .int .i64 m ∧ Hid (ActsTo T.L T.acts m) ∧ Hid (St w0 wr (fun W => BoxC (w.heap.size + 1) [.int .i64 (K : Int)] W ∧ TabBox w.heap.size cs W ∧ F W))) (fun i _ => T.acts.length - (intOf i).toNat)
  case atStart => exact ⟨0, Nat.zero_le _, rfl, Lib.hid (fun i hi => by simp at hi), HK⟩
  case round =>
  clear HK q7
  obtain ⟨m, hm, rfl, HR, HK⟩ := hrel
  by_cases hlt : m < T.acts.length
  · obtain ⟨ab, ao, a, hB, ha, haw, r0, r1, r2⟩ := (HT.out _ HK.out.now.2.2).acts.at_ hlt
    have HAC := Lib.hid ha
    have q6 := HK.out.now.2.1.cell1 g256
    have l1 := lt_of_cell r0
    have l2 := lt_of_cell q6
    have HKa := St.box HK [.int .i64 a.e, .int .i64 a.d, .slice a.o.a a.o.l.length a.o.c] 59
    have HNA : Hid (¬ ActOk T.L a.L → v = false) := Lib.hid fun H => HNO.out (fun H2 => H (H2.acts _ (List.mem_map.2 ⟨a, List.mem_of_getElem? HAC.out, rfl⟩)))
    have HYA : Hid (ActOk T.L a.L → ActsTo T.L T.acts (m + 1)) := Lib.hid fun H => HR.out.next HAC.out H
    rw [hB]
    clear ha haw hB
    have HFA : Hid (∀ W, Hid (St w0 W (fun W => BoxC wr.heap.size [.int .i64 a.e, .int .i64 a.d, .slice a.o.a a.o.l.length a.o.c] W ∧ BoxC (w.heap.size + 1) [.int .i64 (K : Int)] W ∧ TabBox w.heap.size cs W ∧ F W)) → Hid (St w0 W F)) := Lib.hid fun W h => Lib.hid (h.out.weaken fun _ h => h.2.2.2)
    by_cases c1 : ¬ 1 ≤ a.e
    · obtain rfl := HNA.out (fun H => c1 H.1)
      have c1' : a.e < 1 := by omega
      clear c1
      go_wp2_with fail
      go_ret
      exact ⟨rfl, HFA.out _ HKa⟩
    have c1 := Classical.not_not.1 c1
    by_cases c2 : ¬ a.e ≤ 4
    · obtain rfl := HNA.out (fun H => c2 H.2.1)
      have c2' : 4 < a.e := by omega
      clear c2
      go_wp2_with fail
      go_ret
      exact ⟨rfl, HFA.out _ HKa⟩
    have c2 := Classical.not_not.1 c2
    by_cases c3 : ¬ 0 ≤ a.d
    · obtain rfl := HNA.out (fun H => c3 H.2.2.1)
      have c3' : a.d < 0 := by omega
      clear c3
      go_wp2_with fail
      go_ret
      exact ⟨rfl, HFA.out _ HKa⟩
    have c3 := Classical.not_not.1 c3
    by_cases c4 : (T.ns.length : Int) ≤ a.d
    · obtain rfl := HNA.out (fun H => by
        obtain ⟨n, hn, _⟩ := H.2.2.2.1
        have := (List.getElem?_eq_some_iff.1 hn).1
        rw [nodesL_len] at this
        have e : a.L.dest = a.d := rfl
        rw [e] at this
        omega)
      go_wp2_with fail
      go_ret
      exact ⟨rfl, HFA.out _ HKa⟩
    obtain ⟨j, hj⟩ := Int.eq_ofNat_of_zero_le c3
    have hjl : j < T.ns.length := by omega
    obtain ⟨qb, qo, q, hB2, hq, hqw, s0, s1, s2⟩ := (HT.out _ HK.out.now.2.2).nodes.at_ hjl
    rw [hA] at hB2
    injection hB2 with hB2
    injection hB2 with e1 e2
    subst e1; subst e2
    have HQN := Lib.hid hq
    have HJ := Lib.hid hj
    have e3 : a.L.dest.toNat = j := by show a.d.toNat = j; rw [hj, Int.toNat_natCast]
    have HE3 := Lib.hid e3
    have l3 := lt_of_cell s0
    have hjb : (j : Int) < (T.ns.length : Int) := by omega
    have hj0 : (0 : Int) ≤ (j : Int) := by omega
    clear hq hqw s1 s2 e3 c3 c4
    rw [hj] at r1
    rw [hj] at HKa HFA
    by_cases c5 : ¬ q.h = 0
    · obtain rfl := HNA.out (fun H => c5 (by
        obtain ⟨n, hn, h1⟩ := H.2.2.2.1
        rw [HE3.out, nodesL_at HQN.out] at hn; injection hn with hn; subst hn; exact h1))
      have c5' : (q.h != 0) = true := by rw [bne_iff_ne]; exact c5
      clear c5 hj
      go_wp2_with fail
      go_ret
      exact ⟨rfl, HFA.out _ HKa⟩
    have c5 := Classical.not_not.1 c5
    have c5' : (q.h != 0) = false := by rw [bne_eq_false_iff_eq]; exact c5
    by_cases c6 : ¬ a.o.l.length ≤ 64
    · obtain rfl := HNA.out (fun H => c6 (by have := H.2.2.2.2; rwa [show a.L.out.length = a.o.l.length from outL_len a.o] at this))
      have c6' : (64 : Int) < a.o.l.length := by omega
      clear c5 c6 hj
      go_wp2_with fail
      go_ret
      exact ⟨rfl, HFA.out _ HKa⟩
    have c6 := Classical.not_not.1 c6
    have HYA2 := Lib.hid (HYA.out ⟨c1, c2, by show 0 ≤ a.d; rw [hj]; exact hj0, ⟨q.L, by rw [HE3.out]; exact nodesL_at HQN.out, c5⟩, by rw [show a.L.out.length = a.o.l.length from outL_len a.o]; exact c6⟩)
    clear c5 hj
    go_wp2_with fail
    exact ⟨⟨m + 1, by omega, by go_num, HYA2, Lib.hid (HKa.out.weaken fun _ h => h.2)⟩, by simp [intOf]; omega⟩
  obtain rfl : m = T.acts.length := by omega
  have hd : decide (T.acts.length < T.acts.length) = false := by simp
  have HACTS := Lib.hid HR.out.all
  have q8 := HK.out.now.2.1.cell1 h258
  clear HR hm
  go_wp2_with fail
  clear hd
  go_loopw [106] (fun i wr => ∃ m : Nat, m ≤ T.es.length ∧ i = .int .i64 m ∧ Hid (EndsTo T.es m) ∧ Hid (St w0 wr (fun W => BoxC (w.heap.size + 1) [.int .i64 (K : Int)] W ∧ TabBox w.heap.size cs W ∧ F W))) (fun i _ => T.es.length - (intOf i).toNat)
  case atStart => exact ⟨0, Nat.zero_le _, rfl, Lib.hid (fun i hi => by simp at hi), HK⟩
  case round =>
  clear HK q8
  obtain ⟨m, hm, rfl, HR, HK⟩ := hrel
  by_cases hlt2 : m < T.es.length
  · obtain ⟨eb, eo, o, hB, ho, how, r0⟩ := (HT.out _ HK.out.now.2.2).ends.at_ hlt2
    have HO := Lib.hid ho
    rw [hB]
    clear ho how hB
    by_cases c6 : ¬ o.l.length ≤ 64
    · obtain rfl := HNO.out (fun H => c6 (by have := H.ends o.L (List.mem_map.2 ⟨o, List.mem_of_getElem? HO.out, rfl⟩); rwa [outL_len] at this))
      have c6' : (64 : Int) < o.l.length := by omega
      clear c6
      go_wp2_with fail
      go_ret
      exact ⟨rfl, HF.out _ HK⟩
    have c6 := Classical.not_not.1 c6
    have HY := Lib.hid (HR.out.next HO.out c6)
    go_wp2_with fail
    exact ⟨⟨m + 1, by omega, by go_num, HY, HK⟩, by simp [intOf]; omega⟩
  obtain rfl : m = T.es.length := by omega
  have hd : decide (T.es.length < T.es.length) = false := by simp
  have HENDS := Lib.hid HR.out.all
  have q6 := HK.out.now.2.1.cell1 h256
  clear HR hm
  have HV : Hid (pB (NodesOk T.L K) = v) := Lib.hid (by
    rw [← hv.out]
    refine pB_congr ⟨fun H => ⟨⟨by rw [nodesL_len]; exact hl1, by rw [actsL_len]; exact hl2, by rw [endsL_len]; exact hl3, n0.L, nodesL_at HN0.out, HA5.out, ?_, ?_⟩, by rw [HW.out]; exact HEN.out.2.2, HACTS.out, HENDS.out, by rw [HW.out]; exact H⟩, fun H => ?_⟩
    · show 1 ≤ n0.nx.length; rw [HKN.out]; exact HEN.out.1
    · show n0.nx.length ≤ 256; rw [HKN.out]; exact HEN.out.2.1
    · have := H.nodes; rwa [HW.out] at this)
  have hK256 : K ≤ 256 := HEN.out.2.1
  go_wp2_with fail
  have hcn := containsN_st HK cs T hC (fun _ h => HT.out _ h.2.2) w.heap.size (w.heap.size + 1) K (fun _ h => h.2.1) (fun _ h => h.1) v HV hl1 hl2 hl3 hK256
  rw [hA] at hcn
  refine hcn.mono ?_
  clear hcn
  rintro e w9 ⟨rfl, HK9⟩
  cases v
  all_goals
    go_wp2_with fail
    go_ret
    exact ⟨rfl, HF.out _ HK9⟩
end
end Go.Proofs.YtlmkokeapbleoaaGreat
end
section
namespace Go.Proofs.YtlmkokeapbleoaaGreat
open Go.RowKit
set_option linter.unusedVariables false
set_option linter.unusedSimpArgs false
theorem max_take {α : Type} (f : α → Nat) {l : List α} {k : Nat} {x : α} (h : l[k]? = some x) (n : Nat) : ((l.take (k + 1)).map f).foldl max n = max (((l.take k).map f).foldl max n) (f x) := by
  rw [take_snoc? h, List.map_append, List.foldl_append]; rfl
section
variable {w0 w : World} {F : World → Prop}
theorem mact_len {T : TabI} {W : World} (h : TabW T W) : ∀ x ∈ T.L.acts.map (fun a => a.out.length), x ≤ 9223372036854775807 := by
  intro x hx
  obtain ⟨a, ha, rfl⟩ := List.mem_map.1 hx
  obtain ⟨b, hb, rfl⟩ := List.mem_map.1 ha
  have h2 := (h.acts.it b hb).2.ln
  show (b.o.l.map TermI.L).length ≤ _
  rw [List.length_map]; exact h2
theorem mend_len {T : TabI} {W : World} (h : TabW T W) : ∀ x ∈ T.L.ends.map List.length, x ≤ 9223372036854775807 := by
  intro x hx
  obtain ⟨a, ha, rfl⟩ := List.mem_map.1 hx
  obtain ⟨b, hb, rfl⟩ := List.mem_map.1 ha
  have h2 := (h.ends.it b hb).ln
  show (b.l.map TermI.L).length ≤ _
  rw [List.length_map]; exact h2
set_option maxRecDepth 100000 in
set_option maxHeartbeats 16000000 in
theorem Most_st (hK : Hid (St w0 w F)) (cs : Array Value) (T : TabI) (hC : TabC cs T) (ht : ∀ W, F W → TabW T W) (v : Nat) (hv : Hid (mostL T.L = v)) :
    Calls Tryz.prog 35 #[.agg cs] w (RetV w0 (.int .i64 (v : Int)) F) := by
  have HT := Lib.hid ht
  have h258 := hC.c3
  have h257 := hC.c2
  have HK := St.tbox hK cs
  have HRES : Hid (∀ W, Hid (St w0 W (fun W => TabBox w.heap.size cs W ∧ F W)) → Hid (St w0 W F)) := Lib.hid fun W h => Lib.hid (h.out.weaken fun _ h => h.2)
  clear ht
  have HB1 := Lib.hid (mact_len (HT.out _ HK.out.now.2))
  have HB2 := Lib.hid (mend_len (HT.out _ HK.out.now.2))
  have hln2 := (HT.out _ HK.out.now.2).acts.ln
  have hln3 := (HT.out _ HK.out.now.2).ends.ln
  have p7 := HK.out.now.1.cell1 h257
  go_enter Tryz.func35, Tryz.ntmps35
  go_wp2_with fail
  go_loopw [3, 11] (fun s i wr => ∃ (k n : Nat), k ≤ T.acts.length ∧ i = .int .i64 k ∧ s = .int .i64 (n : Int) ∧ n ≤ 9223372036854775807 ∧ Hid (n = ((T.L.acts.take k).map fun a => a.out.length).foldl max 0) ∧ Hid (St w0 wr (fun W => TabBox w.heap.size cs W ∧ F W))) (fun _ i _ => T.acts.length - (intOf i).toNat)
  case atStart => exact ⟨0, 0, by omega, rfl, rfl, by omega, Lib.hid (by simp), HK⟩
  case round =>
  clear HK p7
  obtain ⟨k, n, hk, rfl, rfl, hn, HN, HK⟩ := hrel
  by_cases hlt : k < T.acts.length
  · obtain ⟨b, off, q, hA, hx, hw, r0, r1, r2⟩ := (HT.out _ HK.out.now.2).acts.at_ hlt
    rw [hA]
    have hpl := hw.2.ln
    have hxl := actsL_at hx
    obtain ⟨m, hm⟩ : ∃ m : Nat, max n q.o.l.length = m := ⟨_, rfl⟩
    have HN2 : Hid (m = ((T.L.acts.take (k + 1)).map fun a => a.out.length).foldl max 0) := Lib.hid (by
      rw [max_take (fun a : ActL => a.out.length) hxl, ← HN.out, ← hm]
      show _ = max n (q.o.l.map TermI.L).length
      rw [List.length_map])
    have hm1 : m ≤ 9223372036854775807 := by omega
    have hmi : max (n : Int) (q.o.l.length : Int) = (m : Int) := by omega
    have HKn := Lib.hid (HK.out.add (w' := wr.alloc (.cells #[.int .i64 q.e, .int .i64 q.d, .slice q.o.a q.o.l.length q.o.c] 59)) ((Below.refl _ _).alloc (Nat.le_refl _) _) (G := fun _ => True) (fun _ _ => trivial))
    clear hx hw hxl hm hA
    go_wp2_with fail
    exact ⟨⟨k + 1, m, by omega, by go_num, by go_num, hm1, HN2, Lib.hid (HKn.out.weaken fun _ h => h.2)⟩, by simp [intOf]; omega⟩
  obtain rfl : k = T.acts.length := by omega
  have hd : decide (T.acts.length < T.acts.length) = false := by simp
  have HN2 : Hid (n = (T.L.acts.map fun a => a.out.length).foldl max 0) := Lib.hid (by
    have h1 := HN.out
    rwa [← actsL_len, List.take_length] at h1)
  have hn2 := hn
  obtain ⟨n2, hnn⟩ : ∃ n2, n = n2 := ⟨_, rfl⟩
  rw [hnn] at hn2 HN2 ⊢
  clear HN hn hnn n
  have p8 := HK.out.now.1.cell1 h258
  go_wp2_with fail
  clear hd p8
  go_loopw [3, 24] (fun s i wr => ∃ (k n : Nat), k ≤ T.es.length ∧ i = .int .i64 k ∧ s = .int .i64 (n : Int) ∧ n ≤ 9223372036854775807 ∧ Hid (n = ((T.L.ends.take k).map List.length).foldl max n2) ∧ Hid (St w0 wr (fun W => TabBox w.heap.size cs W ∧ F W))) (fun _ i _ => T.es.length - (intOf i).toNat)
  case atStart => exact ⟨0, n2, by omega, rfl, rfl, by omega, Lib.hid (by simp), HK⟩
  case round =>
  clear HK
  obtain ⟨k, n, hk, rfl, rfl, hn, HN, HK⟩ := hrel
  by_cases hlt : k < T.es.length
  · obtain ⟨b, off, q, hA, hx, hw, r0⟩ := (HT.out _ HK.out.now.2).ends.at_ hlt
    rw [hA]
    have hxl := endsL_at hx
    have hpl := hw.ln
    obtain ⟨m, hm⟩ : ∃ m : Nat, max n q.l.length = m := ⟨_, rfl⟩
    have HN2 : Hid (m = ((T.L.ends.take (k + 1)).map List.length).foldl max n2) := Lib.hid (by
      rw [max_take List.length hxl, ← HN.out, ← hm]
      show _ = max n (q.l.map TermI.L).length
      rw [List.length_map])
    have hm1 : m ≤ 9223372036854775807 := by omega
    have hmi : max (n : Int) (q.l.length : Int) = (m : Int) := by omega
    clear hx hw hxl hm hA
    go_wp2_with fail
    exact ⟨⟨k + 1, m, by omega, by go_num, by go_num, hm1, HN2, HK⟩, by simp [intOf]; omega⟩
  obtain rfl : k = T.es.length := by omega
  have hd : decide (T.es.length < T.es.length) = false := by simp
  have HE : Hid ((n : Int) = v) := Lib.hid (by
    have h1 := HN.out
    rw [← endsL_len, List.take_length, HN2.out] at h1
    have h2 := hv.out
    unfold mostL at h2
    omega)
  go_wp2_with fail
  go_ret
  exact ⟨congrArg (fun u => Ending.returned (.int .i64 u)) HE.out, HRES.out _ HK⟩
end
end Go.Proofs.YtlmkokeapbleoaaGreat
end
section
namespace Go.Proofs.YtlmkokeapbleoaaGreat
open Go.RowKit
set_option linter.unusedVariables false
set_option linter.unusedSimpArgs false
section
variable {w0 w : World} {F : World → Prop}
theorem tab_box17 {W : World} {cs : Array Value} {G : World → Prop} (hK : Hid (St w0 W G)) (z : Array Value) : Hid (St w0 ((W.alloc (.cells z 49)).setRow W.heap.size cs) (fun V => TabBox W.heap.size cs V ∧ G V)) := by
  have hb : Below W.heap.size W ((W.alloc (.cells z 49)).setRow W.heap.size cs) := below_setRow ((Below.refl _ _).alloc (Nat.le_refl _) _) (Nat.le_refl _) _
  exact Lib.hid (hK.out.add hb fun V hV => TabBox.below (setRow_heap _ _ _ _ _ _ (heap_alloc_new W _)) hV)
end
end Go.Proofs.YtlmkokeapbleoaaGreat
end
section
namespace Go.Proofs.YtlmkokeapbleoaaGreat
open Go.RowKit
set_option linter.unusedVariables false
set_option linter.unusedSimpArgs false
/-- all old blocks but those of D are as they were -/
structure BelD (D : Nat → Prop) (w W : World) : Prop where
  os : W.os = w.os
  tape : W.tape = w.tape
  output : W.output = w.output
  size : w.heap.size ≤ W.heap.size
  block : ∀ k, k < w.heap.size → ¬ D k → W.heap[k]? = w.heap[k]?
section
variable {D D' : Nat → Prop} {a b c : World}
theorem BelD.refl (D : Nat → Prop) (w : World) : BelD D w w := ⟨rfl, rfl, rfl, Nat.le_refl _, fun _ _ _ => rfl⟩
theorem BelD.trans (h : BelD D a b) (k : BelD D b c) : BelD D a c :=
  ⟨k.os.trans h.os, k.tape.trans h.tape, k.output.trans h.output, Nat.le_trans h.size k.size, fun i hi hn => (k.block i (Nat.lt_of_lt_of_le hi h.size) hn).trans (h.block i hi hn)⟩
theorem BelD.of_below (h : Below a.heap.size a b) : BelD D a b := ⟨h.os, h.tape, h.output, h.size, fun k hk _ => h.block k hk⟩
theorem BelD.mono (h : BelD D a b) (hd : ∀ k, D k → D' k) : BelD D' a b := ⟨h.os, h.tape, h.output, h.size, fun k hk hn => h.block k hk fun e => hn (hd k e)⟩
theorem BelD.setCell (h : BelD D a b) {p : Nat} (hp : D p) (i : Nat) (v : Value) : BelD D a (b.setCell ⟨p, i, none⟩ v) :=
  ⟨h.os, h.tape, h.output, by simpa using h.size, fun k hk hn => (heap_setCell_other _ _ _ _ (fun e => hn (by have e : k = p := e; rw [e]; exact hp))).trans (h.block k hk hn)⟩
theorem BelD.setRow (h : BelD D a b) {p : Nat} (hp : D p) (cs : Array Value) : BelD D a (b.setRow p cs) :=
  ⟨h.os, h.tape, h.output, by simpa [World.setRow] using h.size, fun k hk hn => (setRow_other _ _ _ _ (fun e => hn (by rw [e]; exact hp))).trans (h.block k hk hn)⟩
theorem BelD.below {n : Nat} (h : BelD D a b) (hd : ∀ k, D k → n ≤ k) (hn : n ≤ a.heap.size) : Below n a b :=
  ⟨h.os, h.tape, h.output, h.size, fun k hk => h.block k (by omega) fun e => by have := hd k e; omega⟩
/-- a row of the call's own that is written too -/
theorem BelD.grown {r : Option Nat} (h : BelD D a b) (hg : b.grownBy c r) (hr : ∀ k, r = some k → a.heap.size ≤ k ∨ D k) : BelD D a c :=
  ⟨hg.os.trans h.os, hg.tape.trans h.tape, hg.output.trans h.output, Nat.le_trans h.size hg.size, fun k hk hn => (hg.block k (Nat.lt_of_lt_of_le hk h.size) (fun e => by
    rcases hr k e.symm with h1 | h1
    · omega
    · exact hn h1)).trans (h.block k hk hn)⟩
end
structure DS (D : Nat → Prop) (n : Nat) (W0 W : World) (F : World → Prop) : Prop where
  dep : ∀ W', BelD D W W' → F W'
  bel : Below n W0 W
  hn : n ≤ W0.heap.size
  lt : ∀ k, D k → n ≤ k ∧ k < W.heap.size
section
variable {D : Nat → Prop} {n : Nat} {W0 W W' : World} {F G : World → Prop}
theorem DS.now (h : DS D n W0 W F) : F W := h.dep W (BelD.refl _ _)
theorem DS.start (hF : ∀ V, Below W.heap.size W V → F V) : DS (fun _ => False) W.heap.size W W F :=
  ⟨fun V h => hF V ⟨h.os, h.tape, h.output, h.size, fun k hk => h.block k hk id⟩, Below.refl _ _, Nat.le_refl _, fun _ h => h.elim⟩
theorem DS.nle (h : DS D n W0 W F) : n ≤ W.heap.size := Nat.le_trans h.hn h.bel.size
theorem DS.step (h : DS D n W0 W F) (hb : BelD D W W') : DS D n W0 W' F :=
  ⟨fun V hV => h.dep V (hb.trans hV), h.bel.trans (hb.below (fun k hk => (h.lt k hk).1) h.nle), h.hn, fun k hk => ⟨(h.lt k hk).1, Nat.lt_of_lt_of_le (h.lt k hk).2 hb.size⟩⟩
theorem DS.add (h : DS D n W0 W F) (hb : BelD D W W') (hG : ∀ V, BelD D W' V → G V) : DS D n W0 W' (fun V => G V ∧ F V) :=
  ⟨fun V hV => ⟨hG V hV, (h.step hb).dep V hV⟩, (h.step hb).bel, h.hn, (h.step hb).lt⟩
theorem DS.weaken (h : DS D n W0 W F) (hw : ∀ V, F V → G V) : DS D n W0 W G := ⟨fun V hV => hw V (h.dep V hV), h.bel, h.hn, h.lt⟩
theorem DS.st (h : DS D n W0 W F) : St W W F := ⟨fun V hV => h.dep V (BelD.of_below hV), Below.refl _ _⟩
/-- a block of a driver's own is new -/
theorem DS.join (h : DS D n W0 W F) (hb : Below W.heap.size W W') {db : Nat} (h1 : W.heap.size ≤ db) (h2 : db < W'.heap.size) : DS (fun k => D k ∨ k = db) n W0 W' F :=
  ⟨fun V hV => h.dep V ⟨hV.os.trans hb.os, hV.tape.trans hb.tape, hV.output.trans hb.output, Nat.le_trans hb.size hV.size, fun k hk hn => (hV.block k (Nat.lt_of_lt_of_le hk hb.size) (fun e => e.elim hn (by omega))).trans (hb.block k hk)⟩,
   h.bel.trans (hb.mono h.nle), h.hn, fun k hk => by
    rcases hk with hk | rfl
    · exact ⟨(h.lt k hk).1, Nat.lt_of_lt_of_le (h.lt k hk).2 hb.size⟩
    · exact ⟨Nat.le_trans h.nle h1, h2⟩⟩
/-- what hangs on new blocks alone -/
theorem DS.new (h : DS D n W0 W F) (hb : Below W.heap.size W W') (hG : Dep (fun k => W.heap.size ≤ k) W' G) : DS D n W0 W' (fun V => G V ∧ F V) :=
  h.add (BelD.of_below hb) fun V hV => hG V fun k hp hl => hV.block k hl fun e => by have := (h.lt k e).2; omega
end
/-- the cells of a driver -/
def drvC (cs : Array Value) (node : Int) (ha : Option Addr) (hc : Nat) (h : List Int) (st : Int) : List Value := cs.toList ++ [.int .i64 node, .slice ha h.length hc, .int .i64 st]
def DrvB (db : Nat) (cs : Array Value) (node : Int) (ha : Option Addr) (hc : Nat) (h : List Int) (st : Int) (W : World) : Prop := W.heap[db]? = some (.cells (drvC cs node ha hc h st).toArray 180 (0, 0))
section
variable {db : Nat} {cs : Array Value} {T : TabI} {node st : Int} {ha : Option Addr} {hc : Nat} {h : List Int} {W W' : World}
theorem drvC_hi (hs : cs.size = 259) (j : Nat) : (drvC cs node ha hc h st)[259 + j]? = [Value.int .i64 node, .slice ha h.length hc, .int .i64 st][j]? := by
  have e : cs.toList.length = 259 := by simp [hs]
  unfold drvC
  rw [List.getElem?_append_right (by omega), e, Nat.add_sub_cancel_left]
theorem drvC_lo {i : Nat} {v : Value} (hv : cs[i]? = some v) : (drvC cs node ha hc h st)[i]? = some v := by
  unfold drvC
  have hi := (Array.getElem?_eq_some_iff.1 hv).1
  rw [List.getElem?_append_left (by rw [Array.length_toList]; exact hi), Array.getElem?_toList]
  exact hv
theorem DrvB.cell (b : DrvB db cs node ha hc h st W) {i : Nat} {v : Value} (hv : (drvC cs node ha hc h st)[i]? = some v) : W.cell? ⟨db, i, none⟩ = some v := by
  have b' : W.heap[db]? = _ := b
  simp [World.cell?, b', hv]
theorem DrvB.fz (b : DrvB db cs node ha hc h st W) (i : Nat) : W.frozen? ⟨db, i, none⟩ = false := by
  have b' : W.heap[db]? = _ := b
  simp [World.frozen?, b']
theorem DrvB.lt (b : DrvB db cs node ha hc h st W) : db < W.heap.size := (Array.getElem?_eq_some_iff.1 b).1
theorem DrvB.cNode (b : DrvB db cs node ha hc h st W) (hs : cs.size = 259) : W.cell? ⟨db, 259, none⟩ = some (.int .i64 node) := b.cell (drvC_hi hs 0)
theorem DrvB.cHeld (b : DrvB db cs node ha hc h st W) (hs : cs.size = 259) : W.cell? ⟨db, 260, none⟩ = some (.slice ha h.length hc) := b.cell (drvC_hi hs 1)
theorem DrvB.cState (b : DrvB db cs node ha hc h st W) (hs : cs.size = 259) : W.cell? ⟨db, 261, none⟩ = some (.int .i64 st) := b.cell (drvC_hi hs 2)
theorem DrvB.keep (b : DrvB db cs node ha hc h st W) (hk : W'.heap[db]? = W.heap[db]?) : DrvB db cs node ha hc h st W' := hk.trans b
theorem drvC_set (hs : cs.size = 259) (j : Nat) (v : Value) : (drvC cs node ha hc h st).set (259 + j) v = cs.toList ++ [Value.int .i64 node, .slice ha h.length hc, .int .i64 st].set j v := by
  unfold drvC
  have e : cs.toList.length = 259 := by simp [hs]
  rw [List.set_append_right _ _ (by omega), e, Nat.add_sub_cancel_left]
theorem DrvB.setNode (b : DrvB db cs node ha hc h st W) (hs : cs.size = 259) (x : Int) : DrvB db cs x ha hc h st (W.setCell ⟨db, 259, none⟩ (.int .i64 x)) := by
  have h1 := heap_setCell_same W db 259 _ _ (.int .i64 x) b
  unfold DrvB
  rw [h1, List.setIfInBounds_toArray, show 259 = 259 + 0 from rfl, drvC_set hs]; rfl
theorem DrvB.setHeld (b : DrvB db cs node ha hc h st W) (hs : cs.size = 259) (A : Option Addr) (c : Nat) (l : List Int) : DrvB db cs node A c l st (W.setCell ⟨db, 260, none⟩ (.slice A l.length c)) := by
  have h1 := heap_setCell_same W db 260 _ _ (.slice A l.length c) b
  unfold DrvB
  rw [h1, List.setIfInBounds_toArray, show 260 = 259 + 1 from rfl, drvC_set hs]; rfl
theorem DrvB.setState (b : DrvB db cs node ha hc h st W) (hs : cs.size = 259) (x : Int) : DrvB db cs node ha hc h x (W.setCell ⟨db, 261, none⟩ (.int .i64 x)) := by
  have h1 := heap_setCell_same W db 261 _ _ (.int .i64 x) b
  unfold DrvB
  rw [h1, List.setIfInBounds_toArray, show 261 = 259 + 2 from rfl, drvC_set hs]; rfl
end
/-! ## a driver, plainly -/
/-- a machine's state, and whether it is closed -/
abbrev DrvS := Drv.S × Bool
def stI (s : DrvS) : Int := if s.1.rej then 2 else if s.2 then 1 else 0
def errI (s : DrvS) : Int := if s.1.rej then 7 else if s.2 then 8 else 0
/-- Write: where it is, what is written, the error -/
noncomputable def wrS (T : TabL) (s : DrvS) (b : List Int) : DrvS × List Int × Int :=
  if errI s ≠ 0 then (s, [], errI s) else (((Drv.go (drvM T) s.1 b).1, false), (Drv.go (drvM T) s.1 b).2, if (Drv.go (drvM T) s.1 b).1.rej then 7 else 0)
def endL' (T : TabL) (k : Nat) : Int := match T.nodes[k]? with
  | some n => n.fin
  | none => -1
/-- Close -/
noncomputable def clS (T : TabL) (s : DrvS) : DrvS × List Int × Int :=
  if errI s ≠ 0 then (s, [], errI s) else if endL' T s.1.node < 0 then ((Drv.rejd, false), [], 7) else ((s.1, true), wrB (T.ends.getD (endL' T s.1.node).toNat []) s.1.held, 0)
end Go.Proofs.YtlmkokeapbleoaaGreat
end
section
namespace Go.Proofs.YtlmkokeapbleoaaGreat
open Go.RowKit
set_option linter.unusedVariables false
set_option linter.unusedSimpArgs false
theorem foldl_fill (l : List Value) : ∀ (n : Nat) (z : Array Value) (i : Nat), ((l.zipIdx n).foldl (fun (a : Array Value) (x : Value × Nat) => a.setIfInBounds (0 + x.2) x.1) z)[i]? = if n ≤ i ∧ i < n + l.length ∧ i < z.size then l[i - n]? else z[i]? := by
  induction l with
  | nil => intro n z i; simp; omega
  | cons v l ih =>
    intro n z i
    rw [List.zipIdx_cons, List.foldl_cons, ih]
    simp only [Array.size_setIfInBounds, List.length_cons]
    by_cases h1 : n + 1 ≤ i ∧ i < n + 1 + l.length ∧ i < z.size
    · rw [if_pos h1, if_pos (by omega)]
      obtain ⟨j, rfl⟩ : ∃ j, i = n + 1 + j := ⟨i - (n + 1), by omega⟩
      rw [show n + 1 + j - (n + 1) = j by omega, show n + 1 + j - n = j + 1 by omega, List.getElem?_cons_succ]
    · rw [if_neg h1]
      by_cases h2 : i = n
      · subst h2
        by_cases h3 : i < z.size
        · rw [if_pos (by omega), Nat.sub_self, List.getElem?_cons_zero, Nat.zero_add, Array.getElem?_setIfInBounds_self_of_lt h3]
        · rw [if_neg (by omega), Array.getElem?_eq_none (by simp; omega), Array.getElem?_eq_none (by omega)]
      · rw [if_neg (by omega), Array.getElem?_setIfInBounds_ne (by omega)]
def drvT : List Value := [.int .i64 0, .slice none 0 0, .int .i64 0]
def drvZ : Array Value := (List.replicate 256 (Value.int .u8 0) ++ [Value.slice none 0 0, .slice none 0 0, .slice none 0 0, .int .i64 0, .slice none 0 0, .int .i64 0]).toArray
def drvPl : Array (Nat × Nat) := #[(0, 259), (259, 1), (260, 1), (261, 1)]
theorem drv_built1 (v : Value) : Tryz.prog.built 180 [(0, v)] = Instr.fill (drvPl[·]?) drvZ [(0, v)] := by kernel_rfl
theorem drvZ_size : drvZ.size = 262 := by kernel_rfl
theorem fill_tab (cs : Array Value) (hs : cs.size = 259) (rest : List (Nat × Value)) : Instr.fill (drvPl[·]?) drvZ ((0, .agg cs) :: rest) = Instr.fill (drvPl[·]?) (cs.toList ++ drvT).toArray rest := by
  have e1 : (Value.agg cs).cells = cs := rfl
  have e2 : (cs.zipIdx.foldl (fun (a : Array Value) (x : Value × Nat) => a.setIfInBounds (0 + x.2) x.1) drvZ) = (cs.toList ++ drvT).toArray := by
    apply Array.ext_getElem?
    intro i
    have e3 : cs.zipIdx.foldl (fun (a : Array Value) (x : Value × Nat) => a.setIfInBounds (0 + x.2) x.1) drvZ = (cs.toList.zipIdx 0).foldl (fun (a : Array Value) (x : Value × Nat) => a.setIfInBounds (0 + x.2) x.1) drvZ := by
      rw [← Array.foldl_toList, Array.toList_zipIdx]
    have hl : cs.toList.length = 259 := by simp [hs]
    have er : (cs.toList ++ drvT).toArray[i]? = (cs.toList ++ drvT)[i]? := List.getElem?_toArray ..
    rw [e3, foldl_fill, drvZ_size, hl, er]
    by_cases h : i < 259
    · rw [if_pos (by omega), List.getElem?_append_left (by omega), Nat.sub_zero]
    · rw [if_neg (by omega), List.getElem?_append_right (by omega), hl]
      obtain ⟨j, rfl⟩ : ∃ j, i = 259 + j := ⟨i - 259, by omega⟩
      rw [Nat.add_sub_cancel_left]
      have h3 : drvZ[259 + j]? = drvT[j]? := by
        have e4 : drvZ = (List.replicate 256 (Value.int .u8 0) ++ ([Value.slice none 0 0, .slice none 0 0, .slice none 0 0] ++ drvT)).toArray := rfl
        rw [e4, List.getElem?_toArray, List.getElem?_append_right (by rw [List.length_replicate]; omega), List.length_replicate, show 259 + j - 256 = 3 + j by omega, List.getElem?_append_right (by simp)]
        simp
      exact h3
  show (if (Value.agg cs).cells.size ≠ 259 || 0 + (Value.agg cs).cells.size > drvZ.size then none else Instr.fill (drvPl[·]?) ((Value.agg cs).cells.zipIdx.foldl (fun a (c, j) => a.setIfInBounds (0 + j) c) drvZ) rest) = _
  rw [e1, hs, drvZ_size, if_neg (by decide), e2]
theorem built_drv (cs : Array Value) (hs : cs.size = 259) : Tryz.prog.built 180 [(0, .agg cs)] = some (drvC cs 0 none 0 [] 0).toArray := by
  rw [drv_built1, fill_tab cs hs]; rfl
end Go.Proofs.YtlmkokeapbleoaaGreat
end
section
namespace Go.Proofs.YtlmkokeapbleoaaGreat
open Go.RowKit
set_option linter.unusedVariables false
set_option linter.unusedSimpArgs false
theorem flat_set {α : Type} {f : α → List Value} {size : Nat} (hf : ∀ x, (f x).length = size) {x' : α} {i : Nat} (hi : i < size) {v : Value} : ∀ {L : List α} {j : Nat} {x : α}, L[j]? = some x → f x' = (f x).set i v → (L.flatMap f).set (j * size + i) v = (L.set j x').flatMap f := by
  intro L
  induction L with
  | nil => intro j x hx; cases hx
  | cons y L ih =>
    intro j x hx h
    cases j with
    | zero =>
      injection hx with hx; subst hx
      rw [List.flatMap_cons, List.set_cons_zero, List.flatMap_cons, Nat.zero_mul, Nat.zero_add, List.set_append_left _ _ (by rw [hf]; exact hi), h]
    | succ j =>
      rw [List.flatMap_cons, List.set_cons_succ, List.flatMap_cons, List.set_append_right _ _ (by rw [hf, Nat.succ_mul]; omega), hf]
      rw [← ih hx h]
      congr 2
      rw [Nat.succ_mul]; omega
theorem own_some' {W : World} {m sz n c : Nat} {et : TypeId} {A : Option Addr} {xs : List Value} (h : W.ownsRow m et sz (.slice A n c) n xs) (hn : 0 < n) : ∃ b, A = some ⟨b, 0, none⟩ := by
  rcases h.2 with ⟨e, _⟩ | ⟨g, cap, cur, e, _⟩
  · injection e with e1 e2; omega
  · injection e with e1 e2; exact ⟨g, e1⟩
theorem ownsRow_setM {W : World} {m b c size : Nat} {et : TypeId} {xs : List Value} {n : Nat} (h : W.ownsRow m et size (.slice (some ⟨b, 0, none⟩) n c) n xs) (k : Nat) (v : Value) : (W.setCell ⟨b, k, none⟩ v).ownsRow m et size (.slice (some ⟨b, 0, none⟩) n c) n (xs.set k v) := (h.stored k v).1
structure Fill {α β : Type} (base lo : Nat) (E : TypeId) (size : Nat) (f : α → List Value) (R : α → World → Prop) (L : α → β) (A : Option Addr) (c : Nat) (l0 l : List α) (k : Nat) (W wr : World) : Prop where
  own : wr.ownsRow base E size (.slice A l.length c) l.length (l.flatMap f)
  len : l.length = l0.length
  rest : ∀ j, k ≤ j → l[j]? = l0[j]?
  done : ∀ j x, j < k → l[j]? = some x → Dep (fun i => lo ≤ i ∧ some i ≠ ownA A) wr (R x)
  bel : Below base W wr
  same : ∀ j : Nat, (l[j]?).map L = (l0[j]?).map L
section
variable {α β : Type} {base lo : Nat} {E : TypeId} {size : Nat} {f : α → List Value} {R : α → World → Prop} {L : α → β} {A : Option Addr} {c : Nat} {l0 l : List α} {k : Nat} {W wr w2 : World}
theorem Fill.start (h : wr.ownsRow base E size (.slice A l.length c) l.length (l.flatMap f)) (hb : Below base W wr) : Fill base lo E size f R L A c l l 0 W wr :=
  ⟨h, rfl, fun _ _ => rfl, fun j x hj => by omega, hb, fun _ => rfl⟩
theorem Fill.at_ (h : Fill base lo E size f R L A c l0 l k W wr) (hf : ∀ x, (f x).length = size) {x : α} (hx : l0[k]? = some x) : ∃ b, A = some ⟨b, 0, none⟩ ∧ l[k]? = some x ∧ (∀ i v, (f x)[i]? = some v → wr.cell? ⟨b, k * size + i, none⟩ = some v) ∧ ∀ j, wr.frozen? ⟨b, j, none⟩ = false := by
  have hx' : l[k]? = some x := (h.rest k (Nat.le_refl _)).trans hx
  have hk := (List.getElem?_eq_some_iff.1 hx').1
  obtain ⟨b, rfl⟩ := own_some' h.own (by omega)
  refine ⟨b, rfl, hx', fun i v hv => ?_, fun j => h.own.frozenAt j⟩
  have hi : i < size := by rw [← hf x]; exact (List.getElem?_eq_some_iff.1 hv).1
  have h1 : k * size + i < l.length * size := by
    have : (k + 1) * size ≤ l.length * size := Nat.mul_le_mul_right _ hk
    rw [Nat.succ_mul] at this; omega
  rw [h.own.cellAt _ h1]
  exact flatMap_at hf hx' hv
theorem Fill.step (h : Fill base lo E size f R L A c l0 l k W wr) (hf : ∀ x, (f x).length = size) {x x' : α} (hx : l[k]? = some x) {b i : Nat} {v : Value} (hA : A = some ⟨b, 0, none⟩) (hi : i < size) (hv : f x' = (f x).set i v) (hL : L x' = L x)
    (hb : Below wr.heap.size wr w2) (hR : Dep (fun i => wr.heap.size ≤ i) w2 (R x')) (hW : base ≤ W.heap.size) (hlo : lo ≤ wr.heap.size) :
    Fill base lo E size f R L A c l0 (l.set k x') (k + 1) W (w2.setCell ⟨b, k * size + i, none⟩ v) := by
  have hk := (List.getElem?_eq_some_iff.1 hx).1
  have hbw : b < wr.heap.size := by
    have : ownA A = some b := by rw [hA]; rfl
    exact (own_ty h.own this).2.1
  have hbb : base ≤ b := by
    have : ownA A = some b := by rw [hA]; rfl
    exact (own_ty h.own this).1
  have hst : ∀ j, j ≠ b → (w2.setCell ⟨b, k * size + i, none⟩ v).heap[j]? = w2.heap[j]? := fun j hj => heap_setCell_other _ _ _ _ hj
  have hbs := h.bel.size
  refine ⟨?_, by rw [List.length_set, h.len], fun j hj => ?_, fun j y hj hy => ?_, ?_, fun j => ?_⟩
  · have h2 := own_keep h.own (w' := w2) fun j hj => hb.block j (own_ty h.own hj).2.1
    subst hA
    have h3 := ownsRow_setM h2 (k * size + i) v
    rw [flat_set hf hi hx hv] at h3
    rw [List.length_set]; exact h3
  · rw [List.getElem?_set_ne (by omega)]; exact h.rest j (by omega)
  · by_cases e : j = k
    · subst e
      rw [List.getElem?_set_self hk] at hy
      injection hy with hy; subst hy
      refine hR.step (fun q hq hl => hst q (by omega)) (by simp) (fun q hq hl => ⟨by omega, fun e => ?_⟩)
      rw [hA] at e
      injection e with e
      have e : q = b := e
      omega
    · rw [List.getElem?_set_ne (fun e2 => e e2.symm)] at hy
      refine (h.done j y (by omega) hy).step (fun q hq hl => (hst q (fun e2 => hq.2 (by rw [hA, e2]; rfl))).trans (hb.block q hl)) (by simpa using hb.size) (fun q hq _ => hq)
  · exact (h.bel.trans (hb.mono (Nat.le_trans hW hbs))).setCell (p := ⟨b, k * size + i, none⟩) hbb v
  · by_cases e : j = k
    · subst e
      rw [List.getElem?_set_self hk, ← h.same j, hx]
      show some (L x') = some (L x)
      rw [hL]
    · rw [List.getElem?_set_ne (fun e2 => e e2.symm)]; exact h.same j
theorem Fill.fin (h : Fill base lo E size f R L A c l0 l k W wr) (hk : l0.length ≤ k) (hl : l0.length ≤ 9223372036854775807) : Dep (fun i => lo ≤ i ∨ ownA A = some i) wr (RowsAt size f R A l) ∧ l.map L = l0.map L := by
  refine ⟨fun V hV => ⟨Sl.of_own (own_keep h.own fun j hj => hV j (.inr hj) (own_ty h.own hj).2.1), fun x hx => ?_, by rw [h.len]; exact hl⟩, ?_⟩
  · obtain ⟨j, hj⟩ := List.getElem?_of_mem hx
    exact h.done j x (by have := (List.getElem?_eq_some_iff.1 hj).1; have := h.len; omega) hj V fun q hq hl => hV q (.inl hq.1) hl
  · apply List.ext_getElem?
    intro j
    rw [List.getElem?_map, List.getElem?_map]; exact h.same j
/-- what else is written meanwhile -/
theorem Fill.keep (h : Fill base lo E size f R L A c l0 l k W wr) (hb : Below base wr w2) (hk : ∀ i, i < wr.heap.size → (lo ≤ i ∨ ownA A = some i) → w2.heap[i]? = wr.heap[i]?) : Fill base lo E size f R L A c l0 l k W w2 :=
  ⟨own_keep h.own fun j hj => hk j (own_ty h.own hj).2.1 (.inr hj), h.len, h.rest, fun j x hj hx => (h.done j x hj hx).step (fun q hq hl => hk q hl (.inl hq.1)) hb.size (fun _ hq _ => hq), h.bel.trans hb, h.same⟩
theorem own_mono {W : World} {m m' sz n c : Nat} {et : TypeId} {A : Option Addr} {xs : List Value} (h : W.ownsRow m et sz (.slice A n c) n xs) (hm : m' ≤ m) : W.ownsRow m' et sz (.slice A n c) n xs :=
  ⟨h.1, h.2.imp id fun ⟨g, cap, cur, e, hg, hh⟩ => ⟨g, cap, cur, e, Nat.le_trans hm hg, hh⟩⟩
end
end Go.Proofs.YtlmkokeapbleoaaGreat
end
section
namespace Go.Proofs.YtlmkokeapbleoaaGreat
open Go.RowKit
set_option linter.unusedVariables false
set_option linter.unusedSimpArgs false
section
set_option maxRecDepth 100000 in
set_option maxHeartbeats 32000000 in
theorem dOwn_st (w : World) {A : Option Addr} {l : List TermI} (ha : TermsAt A l w) (hl : l.length ≤ 1048576) (hp : ∀ t ∈ l, t.ps.length ≤ 1048576) (c : Nat) :
    Calls Tryz.prog 97 #[.slice A l.length c] w (RetTerms w l) := by
  have HA : Hid (∀ W, Below w.heap.size w W → TermsAt A l W) := Lib.hid fun W hW => TermsAt.below ha hW
  have HPL := Lib.hid hp
  have HSL := Lib.hid ha.sl
  clear ha hp
  go_enter Tryz.func97, Tryz.ntmps97
  go_wp2_with fail
  refine (CloneTerm w HSL.out (flat_one (fun x u hu => termC_one x u hu) l) hl c).mono ?_
  rintro e w1 ⟨A1, c1, rfl, HO, HB⟩
  have HF0 : Hid (Fill w.heap.size w.heap.size 68 6 termC TermW TermI.L A1 c1 l l 0 w w1) := Lib.hid (Fill.start HO.out HB.out)
  clear HO HB
  go_wp2_with fail
  go_loopw [8] (fun iv wr => ∃ (k : Nat) (l' : List TermI), k ≤ l.length ∧ iv = .int .i64 k ∧ Hid (Fill w.heap.size w.heap.size 68 6 termC TermW TermI.L A1 c1 l l' k w wr)) (fun iv _ => l.length - (intOf iv).toNat)
  case atStart => exact ⟨0, l, Nat.zero_le _, rfl, HF0⟩
  case round =>
  clear HF0
  obtain ⟨k, l', hk, rfl, HF⟩ := hrel
  by_cases hlt : k < l.length
  · obtain ⟨x, hx⟩ : ∃ x, l[k]? = some x := ⟨_, List.getElem?_eq_getElem hlt⟩
    obtain ⟨b, rfl, hx', hcell, hfz⟩ := HF.out.at_ (fun _ => rfl) hx
    have c5 : wr.cell? ⟨b, k * 6 + 5, none⟩ = some (.slice x.pa x.ps.length x.pc) := hcell 5 _ rfl
    have HXW : Hid (TermW x wr) := Lib.hid ((HA.out wr HF.out.bel).it x (List.mem_of_getElem? hx))
    have hpl := HPL.out x (List.mem_of_getElem? hx)
    have HX := Lib.hid hx'
    have HFZ := Lib.hid hfz
    have hli : (k : Int) < (l.length : Int) := by omega
    have hk0 : (0 : Int) ≤ (k : Int) := by omega
    clear hx hx' hcell hfz
    go_wp2_with fail
    refine (ClonePart wr HXW.out.2.sl (flat_one (fun y u hu => partC_one y u hu) x.ps) hpl x.pc).mono ?_
    rintro e w2 ⟨A2, c2, rfl, HO2, HB2⟩
    have c5' : w2.cell? ⟨b, k * 6 + 5, none⟩ = some (.slice x.pa x.ps.length x.pc) := (HB2.out.cell (p := ⟨b, k * 6 + 5, none⟩) (lt_of_cell c5)).trans c5
    have hf5 : w2.frozen? ⟨b, k * 6 + 5, none⟩ = false := (own_keep HF.out.own fun j hj => HB2.out.block j (own_ty HF.out.own hj).2.1).frozenAt _
    have HF2 : Hid (Fill w.heap.size w.heap.size 68 6 termC TermW TermI.L (some ⟨b, 0, none⟩) c1 l (l'.set k { x with pa := A2, pc := c2 }) (k + 1) w (w2.setCell ⟨b, k * 6 + 5, none⟩ (.slice A2 x.ps.length c2))) := Lib.hid
      (HF.out.step (fun _ => rfl) HX.out rfl (by decide) rfl rfl HB2.out (fun V hV => ⟨HXW.out.1, (rows_own HO2.out (by omega) (fun y hy U => HXW.out.2.it y hy)) V hV⟩) (Nat.le_refl _) HF.out.bel.size)
    clear c5
    go_wp2_with fail
    exact ⟨⟨k + 1, _, by omega, by go_num, HF2⟩, by simp [intOf]; omega⟩
  · obtain rfl : k = l.length := by omega
    have hd : decide (l.length < l.length) = false := by simp
    have hlen := HF.out.len
    have HFI := Lib.hid (HF.out.fin (Nat.le_refl _) (by omega))
    go_wp2_with fail
    go_ret
    refine ⟨A1, c1, l', ?_, Lib.hid HFI.out.2, Lib.hid (HFI.out.1.mono fun i hi _ => hi.elim id fun e => (own_ty HF.out.own e).1), Lib.hid HF.out.bel⟩
    rw [hlen]; rfl
end
end Go.Proofs.YtlmkokeapbleoaaGreat
end
section
namespace Go.Proofs.YtlmkokeapbleoaaGreat
open Go.RowKit
set_option linter.unusedVariables false
set_option linter.unusedSimpArgs false
def one17 (t : TermL) : Nat := 1 + min t.parts.length 90000
def sizeL (l : List TermL) : Nat := if 300 < l.length then 90000 else (l.map one17).sum
def nodeN (n : NodeL) : Nat := min n.next.length 90000
def sumT (T : TabL) : Nat := ((T.nodes.map nodeN).sum + (T.acts.map fun a => sizeL a.out).sum) + (T.ends.map sizeL).sum
def SmallT (T : TabL) : Prop := T.nodes.length ≤ 300 ∧ T.acts.length ≤ 300 ∧ T.ends.length ≤ 300 ∧ sumT T ≤ 80000
theorem sum_take {α : Type} (f : α → Nat) {l : List α} {k : Nat} {x : α} (h : l[k]? = some x) : ((l.take (k + 1)).map f).sum = ((l.take k).map f).sum + f x := by
  rw [take_snoc? h, List.map_append, List.sum_append]; simp
theorem sum_le {α : Type} (f : α → Nat) (m : Nat) (hf : ∀ x, f x ≤ m) (l : List α) : (l.map f).sum ≤ l.length * m := by
  induction l with
  | nil => simp
  | cons x l ih => have := hf x; rw [List.map_cons, List.sum_cons, List.length_cons, Nat.add_mul]; omega
theorem sum_take_le {α : Type} (f : α → Nat) (m n : Nat) (hf : ∀ x, f x ≤ m) (l : List α) (hl : l.length ≤ n) (k : Nat) : ((l.take k).map f).sum ≤ n * m := by
  refine Nat.le_trans (sum_le f m hf _) (Nat.mul_le_mul_right _ ?_)
  rw [List.length_take]; omega
theorem one17_le (t : TermL) : one17 t ≤ 90001 := by unfold one17; omega
theorem nodeN_le (t : NodeL) : nodeN t ≤ 90000 := by unfold nodeN; omega
theorem sizeL_le (l : List TermL) : sizeL l ≤ 27000300 := by
  unfold sizeL
  split
  · omega
  · have := sum_le one17 90001 one17_le l
    have h2 : l.length * 90001 ≤ 300 * 90001 := Nat.mul_le_mul_right _ (by omega)
    omega
section
variable {w0 w : World} {F : World → Prop}
theorem size_st (hK : Hid (St w0 w F)) (o : OutI) (hp : ∀ W, F W → OutW o W) (v : Nat) (hv : Hid (sizeL o.L = v)) :
    Calls Tryz.prog 84 #[.slice o.a o.l.length o.c] w (RetV w0 (.int .i64 (v : Int)) F) := by
  have hln := (hp _ hK.out.now).ln
  have HP := Lib.hid hp
  have HOL : Hid (o.L.length = o.l.length) := Lib.hid (List.length_map _)
  clear hp
  by_cases h3 : 300 < o.l.length
  · obtain rfl : v = 90000 := by rw [← hv.out]; unfold sizeL; rw [if_pos (by rw [HOL.out]; exact h3)]
    have h3' : (300 : Int) < o.l.length := by omega
    go_enter Tryz.func84, Tryz.ntmps84
    go_wp2_with fail
    go_ret
    exact ⟨rfl, hK⟩
  have h3' : ¬ (300 : Int) < o.l.length := by omega
  have HV : Hid ((o.L.map one17).sum = v) := Lib.hid (by rw [← hv.out]; unfold sizeL; rw [if_neg (by rw [HOL.out]; exact h3)])
  obtain ⟨oa, oc, ol⟩ := o
  simp only at *
  go_enter Tryz.func84, Tryz.ntmps84
  go_wp2_with fail
  go_loop [3, 4] (fun s i => ∃ (k n : Nat), k ≤ ol.length ∧ i = .int .i64 k ∧ s = .int .i64 (n : Int) ∧ n ≤ 27000300 ∧ Hid (n = (((ol.map TermI.L).take k).map one17).sum)) (fun _ i => ol.length - (intOf i).toNat)
  case atStart => exact ⟨0, 0, by omega, rfl, rfl, by omega, Lib.hid (by simp)⟩
  case round =>
  obtain ⟨k, n, hk, rfl, rfl, hn, HN⟩ := hrel
  by_cases hlt : k < ol.length
  · obtain ⟨b, off, i, hA, hx, hw, hd0, hd1, hd2, hd3, hd4, hd5⟩ := (HP.out _ hK.out.now).at_ hlt
    simp only at hA
    subst hA
    have hpl := hw.2.ln
    have hxl : (ol.map TermI.L)[k]? = some i.L := by rw [List.getElem?_map, hx]; rfl
    obtain ⟨m, hm⟩ : ∃ m : Nat, min i.ps.length 90000 = m := ⟨_, rfl⟩
    have HN2 : Hid (n + 1 + m = (((ol.map TermI.L).take (k + 1)).map one17).sum) := Lib.hid (by rw [sum_take one17 hxl, ← HN.out, ← hm]; show _ = n + (1 + min i.ps.length 90000); omega)
    have hm1 : m ≤ 90000 := by omega
    have hb : n + 1 + m ≤ 27000300 := by
      have h1 := sum_take_le one17 90001 300 one17_le (ol.map TermI.L) (by rw [List.length_map]; omega) (k + 1)
      rw [← HN2.out] at h1; omega
    have hmi : min (i.ps.length : Int) 90000 = (m : Int) := by omega
    clear hx hw hxl hm hd0 hd1 hd2 hd3 hd4
    go_wp2_with fail
    go_round
    case rel => exact ⟨k + 1, n + 1 + m, by omega, by go_num, by go_num, hb, HN2⟩
    case measure => simp [intOf]; omega
  · obtain rfl : k = ol.length := by omega
    have hd : decide (ol.length < ol.length) = false := by simp
    have HE : Hid ((n : Int) = v) := Lib.hid (by
      have h1 := HN.out
      rw [show ol.length = (ol.map TermI.L).length from (List.length_map _).symm, List.take_length] at h1
      have h2 := HV.out
      have h3 : (OutI.L ⟨oa, oc, ol⟩) = ol.map TermI.L := rfl
      rw [h3] at h2; omega)
    go_wp2_with fail
    go_ret
    exact ⟨congrArg (fun u => Ending.returned (.int .i64 u)) HE.out, hK⟩
set_option maxRecDepth 100000 in
set_option maxHeartbeats 16000000 in
theorem Small_st (hK : Hid (St w0 w F)) (cs : Array Value) (T : TabI) (hC : TabC cs T) (ht : ∀ W, F W → TabW T W) (v : Bool) (hv : Hid (pB (SmallT T.L) = v)) :
    Calls Tryz.prog 32 #[.agg cs] w (RetV w0 (.bool v) F) := by
  have HT := Lib.hid ht
  have h258 := hC.c3
  have h257 := hC.c2
  have h256 := hC.c1
  have HK := St.tbox hK cs
  have HRES : Hid (∀ W, Hid (St w0 W (fun W => TabBox w.heap.size cs W ∧ F W)) → Hid (St w0 W F)) := Lib.hid fun W h => Lib.hid (h.out.weaken fun _ h => h.2)
  clear ht
  have hln1 := (HT.out _ HK.out.now.2).nodes.ln
  have hln2 := (HT.out _ HK.out.now.2).acts.ln
  have hln3 := (HT.out _ HK.out.now.2).ends.ln
  by_cases a2 : ¬ T.ns.length ≤ 300
  · obtain rfl := pB_f hv (fun H => a2 (by have := H.1; rwa [nodesL_len] at this))
    have a2' : (300 : Int) < T.ns.length := by omega
    clear a2
    go_enter Tryz.func32, Tryz.ntmps32
    go_wp2_with fail
    go_ret
    exact ⟨rfl, HRES.out _ HK⟩
  by_cases a3 : ¬ T.acts.length ≤ 300
  · obtain rfl := pB_f hv (fun H => a3 (by have := H.2.1; rwa [actsL_len] at this))
    have a3' : (300 : Int) < T.acts.length := by omega
    clear a2 a3
    go_enter Tryz.func32, Tryz.ntmps32
    go_wp2_with fail
    all_goals (go_ret; exact ⟨rfl, HRES.out _ HK⟩)
  by_cases a4 : ¬ T.es.length ≤ 300
  · obtain rfl := pB_f hv (fun H => a4 (by have := H.2.2.1; rwa [endsL_len] at this))
    have a4' : (300 : Int) < T.es.length := by omega
    clear a2 a3 a4
    go_enter Tryz.func32, Tryz.ntmps32
    go_wp2_with fail
    all_goals (go_ret; exact ⟨rfl, HRES.out _ HK⟩)
  have hl1 : T.ns.length ≤ 300 := by omega
  have hl2 : T.acts.length ≤ 300 := by omega
  have hl3 : T.es.length ≤ 300 := by omega
  clear a2 a3 a4 hln1 hln2 hln3
  go_enter Tryz.func32, Tryz.ntmps32
  go_wp2_with fail
  go_loopw [3, 4] (fun s i wr => ∃ (k n : Nat), k ≤ T.ns.length ∧ i = .int .i64 k ∧ s = .int .i64 (n : Int) ∧ n ≤ 27000000 ∧ Hid (n = ((T.L.nodes.take k).map nodeN).sum) ∧ Hid (St w0 wr (fun W => TabBox w.heap.size cs W ∧ F W))) (fun _ i _ => T.ns.length - (intOf i).toNat)
  case atStart => exact ⟨0, 0, by omega, rfl, rfl, by omega, Lib.hid (by simp), HK⟩
  case round =>
  clear HK
  obtain ⟨k, n, hk, rfl, rfl, hn, HN, HK⟩ := hrel
  have p6 := HK.out.now.1.cell1 h256
  by_cases hlt : k < T.ns.length
  · obtain ⟨b, off, q, hA, hx, hw, r0, r1, r2⟩ := (HT.out _ HK.out.now.2).nodes.at_ hlt
    rw [hA] at p6
    have hpl := hw.2.ln
    have hxl := nodesL_at hx
    obtain ⟨m, hm⟩ : ∃ m : Nat, min q.nx.length 90000 = m := ⟨_, rfl⟩
    have HN2 : Hid (n + m = ((T.L.nodes.take (k + 1)).map nodeN).sum) := Lib.hid (by rw [sum_take nodeN hxl, ← HN.out, ← hm]; rfl)
    have hm1 : m ≤ 90000 := by omega
    have hb : n + m ≤ 27000000 := by
      have h1 := sum_take_le nodeN 90000 300 nodeN_le T.L.nodes (by rw [nodesL_len]; omega) (k + 1)
      rw [← HN2.out] at h1; omega
    have hmi : min (q.nx.length : Int) 90000 = (m : Int) := by omega
    clear hx hw hxl hm r0 r2 hA
    go_wp2_with fail
    exact ⟨⟨k + 1, n + m, by omega, by go_num, by go_num, hb, HN2, HK⟩, by simp [intOf]; omega⟩
  obtain rfl : k = T.ns.length := by omega
  have hd : decide (T.ns.length < T.ns.length) = false := by simp
  have HN1 : Hid (n = (T.L.nodes.map nodeN).sum) := Lib.hid (by
    have h1 := HN.out
    rwa [← nodesL_len, List.take_length] at h1)
  have hn1 := hn
  obtain ⟨n1, hnn⟩ : ∃ n1, n = n1 := ⟨_, rfl⟩
  rw [hnn] at hn1 HN1 ⊢
  clear HN hn hnn n
  go_wp2_with fail
  clear hd p6
  go_loopw [3, 5] (fun s i wr => ∃ (k n : Nat), k ≤ T.acts.length ∧ i = .int .i64 k ∧ s = .int .i64 (n : Int) ∧ n ≤ 27000000 + 300 * 27000300 ∧ Hid (n = n1 + ((T.L.acts.take k).map fun a => sizeL a.out).sum) ∧ Hid (St w0 wr (fun W => TabBox w.heap.size cs W ∧ F W))) (fun _ i _ => T.acts.length - (intOf i).toNat)
  case atStart => exact ⟨0, n1, by omega, rfl, rfl, by omega, Lib.hid (by simp), HK⟩
  case round =>
  clear HK
  obtain ⟨k, n, hk, rfl, rfl, hn, HN, HK⟩ := hrel
  have p7 := HK.out.now.1.cell1 h257
  by_cases hlt : k < T.acts.length
  · obtain ⟨b, off, q, hA, hx, hw, r0, r1, r2⟩ := (HT.out _ HK.out.now.2).acts.at_ hlt
    rw [hA] at p7
    have hxl := actsL_at hx
    obtain ⟨m, hm⟩ : ∃ m : Nat, sizeL q.o.L = m := ⟨_, rfl⟩
    have HM := Lib.hid hm
    have HN2 : Hid (n + m = n1 + ((T.L.acts.take (k + 1)).map fun a => sizeL a.out).sum) := Lib.hid (by rw [sum_take (fun a => sizeL a.out) hxl, ← hm]; have := HN.out; show n + _ = n1 + (_ + sizeL q.o.L); omega)
    have hm1 : m ≤ 27000300 := by rw [← hm]; exact sizeL_le _
    have hb : n + m ≤ 27000000 + 300 * 27000300 := by
      have h1 := sum_take_le (fun a : ActL => sizeL a.out) 27000300 300 (fun _ => sizeL_le _) T.L.acts (by rw [actsL_len]; omega) (k + 1)
      have h2 := HN2.out; omega
    have HKo := Lib.hid (HK.out.add (Below.refl _ _) (G := OutW q.o) (fun W hW => OutW.stays _ _ _ hw.2 hW))
    clear hx hw hxl hm r0 r1 hA
    go_wp2_with fail
    refine (size_st HKo q.o (fun _ h => h.1) m HM).mono ?_
    rintro e w5 ⟨rfl, HK5⟩
    go_wp2_with fail
    exact ⟨⟨k + 1, n + m, by omega, by go_num, by go_num, hb, HN2, Lib.hid (HK5.out.weaken fun _ h => h.2)⟩, by simp [intOf]; omega⟩
  obtain rfl : k = T.acts.length := by omega
  have hd : decide (T.acts.length < T.acts.length) = false := by simp
  have HN2 : Hid (n = n1 + (T.L.acts.map fun a => sizeL a.out).sum) := Lib.hid (by
    have h1 := HN.out
    rwa [← actsL_len, List.take_length] at h1)
  have hn2 := hn
  obtain ⟨n2, hnn⟩ : ∃ n2, n = n2 := ⟨_, rfl⟩
  rw [hnn] at hn2 HN2 ⊢
  clear HN hn hnn n
  go_wp2_with fail
  clear hd p7
  go_loopw [3, 6] (fun s i wr => ∃ (k n : Nat), k ≤ T.es.length ∧ i = .int .i64 k ∧ s = .int .i64 (n : Int) ∧ n ≤ 27000000 + 600 * 27000300 ∧ Hid (n = n2 + ((T.L.ends.take k).map sizeL).sum) ∧ Hid (St w0 wr (fun W => TabBox w.heap.size cs W ∧ F W))) (fun _ i _ => T.es.length - (intOf i).toNat)
  case atStart => exact ⟨0, n2, by omega, rfl, rfl, by omega, Lib.hid (by simp), HK⟩
  case round =>
  clear HK
  obtain ⟨k, n, hk, rfl, rfl, hn, HN, HK⟩ := hrel
  have p8 := HK.out.now.1.cell1 h258
  by_cases hlt : k < T.es.length
  · obtain ⟨b, off, q, hA, hx, hw, r0⟩ := (HT.out _ HK.out.now.2).ends.at_ hlt
    rw [hA] at p8
    have hxl := endsL_at hx
    obtain ⟨m, hm⟩ : ∃ m : Nat, sizeL q.L = m := ⟨_, rfl⟩
    have HM := Lib.hid hm
    have HN2 : Hid (n + m = n2 + ((T.L.ends.take (k + 1)).map sizeL).sum) := Lib.hid (by rw [sum_take sizeL hxl, ← hm]; have := HN.out; omega)
    have hm1 : m ≤ 27000300 := by rw [← hm]; exact sizeL_le _
    have hb : n + m ≤ 27000000 + 600 * 27000300 := by
      have h1 := sum_take_le sizeL 27000300 300 sizeL_le T.L.ends (by rw [endsL_len]; omega) (k + 1)
      have h2 := HN2.out; omega
    have HKo := Lib.hid (HK.out.add (Below.refl _ _) (G := OutW q) (fun W hW => OutW.stays _ _ _ hw hW))
    clear hx hw hxl hm hA
    go_wp2_with fail
    refine (size_st HKo q (fun _ h => h.1) m HM).mono ?_
    rintro e w5 ⟨rfl, HK5⟩
    go_wp2_with fail
    exact ⟨⟨k + 1, n + m, by omega, by go_num, by go_num, hb, HN2, Lib.hid (HK5.out.weaken fun _ h => h.2)⟩, by simp [intOf]; omega⟩
  obtain rfl : k = T.es.length := by omega
  have hd : decide (T.es.length < T.es.length) = false := by simp
  have HN3 : Hid (n = sumT T.L) := Lib.hid (by
    have h1 := HN.out
    rw [← endsL_len, List.take_length] at h1
    rw [h1, HN2.out, HN1.out]; rfl)
  by_cases h8 : n ≤ 80000
  · have h8' : decide ((n : Int) ≤ 80000) = true := decide_eq_true (by omega)
    obtain rfl := pB_t hv ⟨by rw [nodesL_len]; exact hl1, by rw [actsL_len]; exact hl2, by rw [endsL_len]; exact hl3, by rw [← HN3.out]; exact h8⟩
    clear h8
    go_wp2_with fail
    go_ret
    exact ⟨rfl, HRES.out _ HK⟩
  · have h8' : decide ((n : Int) ≤ 80000) = false := decide_eq_false (by omega)
    obtain rfl := pB_f hv (fun H => h8 (by rw [HN3.out]; exact H.2.2.2))
    clear h8
    go_wp2_with fail
    go_ret
    exact ⟨rfl, HRES.out _ HK⟩
end
end Go.Proofs.YtlmkokeapbleoaaGreat
end
section
namespace Go.Proofs.YtlmkokeapbleoaaGreat
open Go.RowKit Go.Shelf
set_option linter.unusedVariables false
/-- operations that cannot come up as long as i has not: each of them waits for i or for another one of them; all from z on are among them -/
def blk (md : Region.Mode) (ops : Array Oper) (z : Nat) (Bk : List Nat) (listed : Array Bool) (i : Nat) : Bool :=
  (Bk.all fun k => !listed.getD k true && (waitsOn md ops k i || Bk.any fun k' => waitsOn md ops k k')) && (List.range listed.size).all fun j => decide (j < z) || Bk.contains j
/-- has an operation from z on come? -/
def anyLate (z : Nat) (listed : Array Bool) : Bool := (List.range listed.size).any fun j => decide (z ≤ j) && listed.getD j false
/-- whatever order is picked: S2 holds behind each operation, S as long as none from z on has come -/
def wpAnyY (P : Program) (md : Region.Mode) (ops : Array Oper) (Q : Exit → Act → World → Prop) (S S2 : World → Prop) (z : Nat) : Nat → Array Bool → Act → World → Prop
  | 0, listed, a, w => Region.ready md ops listed = [] ∧ Q .normal a w
  | fuel + 1, listed, a, w => (Region.ready md ops listed = [] → Q .normal a w) ∧
    ∀ i ∈ Region.ready md ops listed, wpOp P ops Q i (fun a' w' => (S2 w' ∧ (anyLate z (listed.setIfInBounds i true) = true ∨ S w')) ∧ wpAnyY P md ops Q S S2 z fuel (listed.setIfInBounds i true) a' w') a w
section
variable {P : Program} {ops : Array Oper} {Q : Exit → Act → World → Prop} {md : Region.Mode} {S S2 T : World → Prop} {z : Nat}
theorem wpAny_of_Y : ∀ (fuel : Nat) (listed : Array Bool) (a : Act) (w : World), wpAnyY P md ops Q S S2 z fuel listed a w → wpAny P md ops Q fuel listed a w
  | 0, _, _, _, h => h
  | fuel + 1, _, _, _, h => ⟨h.1, fun i hi => wpOp_mono (fun a' w' h' => wpAny_of_Y fuel _ a' w' h'.2) (h.2 i hi)⟩
theorem ready_unlisted {listed : Array Bool} {j k : Nat} {oj : Oper} (hk : listed.getD k true = false) (hj : j ∈ Region.ready md ops listed) (hoj : ops[j]? = some oj) : ∀ e ∈ oj.after, Region.binds md e = true → e.on ≠ k := fun e he hb heq => by
  obtain ⟨_, o, ho, hall⟩ := mem_ready.1 hj
  rw [hoj] at ho; injection ho with ho; subst ho
  have h7 := hall e he hb
  rw [heq] at h7
  rcases Nat.lt_or_ge k listed.size with hl | hl
  · simp [hl] at hk h7; rw [hk] at h7; cases h7
  · simp [Array.getElem?_eq_none hl] at h7
theorem anyLate_mono {listed : Array Bool} (j : Nat) (h : anyLate z listed = true) : anyLate z (listed.setIfInBounds j true) = true := by
  unfold anyLate at h ⊢
  rw [List.any_eq_true] at h ⊢
  obtain ⟨k, hk, he⟩ := h
  refine ⟨k, by simpa using hk, ?_⟩
  simp only [Bool.and_eq_true, decide_eq_true_eq] at he ⊢
  refine ⟨he.1, ?_⟩
  have hl : k < listed.size := by simpa using hk
  by_cases hjk : j = k
  · subst hjk; simp [Array.getD, hl]
  · rw [getD_set_ne false hjk]; exact he.2
theorem anyLate_set {listed : Array Bool} {j : Nat} (hz : j < z) (h : anyLate z (listed.setIfInBounds j true) = true) : anyLate z listed = true := by
  unfold anyLate at h ⊢
  rw [List.any_eq_true] at h ⊢
  obtain ⟨k, hk, he⟩ := h
  refine ⟨k, by simpa using hk, ?_⟩
  simp only [Bool.and_eq_true, decide_eq_true_eq] at he ⊢
  refine ⟨he.1, ?_⟩
  rw [getD_set_ne false (by omega : j ≠ k)] at he
  exact he.2
theorem blk_late {Bk : List Nat} {listed : Array Bool} {i : Nat} (h : blk md ops z Bk listed i = true) : anyLate z listed = false := by
  rcases hl : anyLate z listed with _ | _
  · rfl
  · exfalso
    unfold anyLate at hl
    rw [List.any_eq_true] at hl
    obtain ⟨k, hk, he⟩ := hl
    simp only [Bool.and_eq_true, decide_eq_true_eq] at he
    unfold blk at h
    rw [Bool.and_eq_true, List.all_eq_true, List.all_eq_true] at h
    have h1 := h.2 k hk
    simp only [Bool.or_eq_true, decide_eq_true_eq] at h1
    have hm := h1.resolve_left (by omega)
    have h2 := h.1 k (by simpa using hm)
    rw [Bool.and_eq_true] at h2
    have hkl : k < listed.size := List.mem_range.1 hk
    have h3 := h2.1
    have h4 := he.2
    simp [Array.getD, hkl] at h3 h4
    rw [h3] at h4; cases h4
theorem blk_not {Bk : List Nat} {listed : Array Bool} {i j : Nat} {oj : Oper} (h : blk md ops z Bk listed i = true) (hi : listed.getD i true = false) (hj : j ∈ Region.ready md ops listed) (hoj : ops[j]? = some oj) : j ∉ Bk := fun hm => by
  unfold blk at h
  rw [Bool.and_eq_true, List.all_eq_true] at h
  have h2 := h.1 j hm
  simp only [Bool.and_eq_true, Bool.or_eq_true, Bool.not_eq_true'] at h2
  rcases h2.2 with h3 | h3
  · exact waits_not h3 hoj (ready_unlisted hi hj hoj)
  · rw [List.any_eq_true] at h3
    obtain ⟨k, hk, hw⟩ := h3
    have h4 := h.1 k hk
    simp only [Bool.and_eq_true, Bool.or_eq_true, Bool.not_eq_true'] at h4
    exact waits_not hw hoj (ready_unlisted h4.1 hj hoj)
theorem blk_set {Bk : List Nat} {listed : Array Bool} {i j : Nat} (h : blk md ops z Bk listed i = true) (hj : j ∉ Bk) : blk md ops z Bk (listed.setIfInBounds j true) i = true := by
  unfold blk at h ⊢
  rw [Bool.and_eq_true, List.all_eq_true, List.all_eq_true] at h ⊢
  refine ⟨fun k hk => ?_, fun k hk => h.2 k (by simpa using hk)⟩
  have hjk : j ≠ k := fun e => hj (by rw [e]; exact hk)
  rw [getD_set_ne true hjk]
  exact h.1 k hk
theorem wpAnyY_first {i : Nat} {oi : Oper} {v : Value} (hi : ops[i]? = some oi) (hsel : ∀ (j : Nat) (o : Oper) cs b, ops[j]? = some o → o.op ≠ .select cs b)
    (hQ : ∀ c a w, Q (.panic c) (a.put oi.dst v) w → Q (.panic c) a w) (Bk : List Nat) (hiz : i < z) :
    ∀ (fuel : Nat) (listed : Array Bool) (a : Act) (w : World), ((∀ w, S2 w → T w) ∨ ((∀ w, S w → T w) ∧ blk md ops z Bk listed i = true)) →
      (∀ j oj, ops[j]? = some oj → j ≠ i → listed.getD j true = false → (∀ e ∈ oj.after, Region.binds md e = true → e.on ≠ i) → oi.apart ops oj = true) →
      i ∈ Region.ready md ops listed → YieldsIf P ops T oi v a → S2 w → T w → (anyLate z listed = true ∨ S w) →
      wpAnyY P md ops Q S S2 z fuel (listed.setIfInBounds i true) (a.put oi.dst v) w → wpAnyY P md ops Q S S2 z (fuel + 1) listed a w := by
  intro fuel
  induction fuel with
  | zero =>
    intro listed a w hB _ hr hy hS2 hT hS H
    refine ⟨fun h => absurd hr (by rw [h]; exact List.not_mem_nil), fun j hj => ?_⟩
    by_cases hji : j = i
    · subst hji; exact hy.wpOp hi hT ⟨⟨hS2, hS.imp (anyLate_mono _) id⟩, H⟩
    · have h1 := ready_mono hj hji
      rw [H.1] at h1
      exact absurd h1 List.not_mem_nil
  | succ fuel ih =>
    intro listed a w hB hfree hr hy hS2 hT hS H
    refine ⟨fun h => absurd hr (by rw [h]; exact List.not_mem_nil), fun j hj => ?_⟩
    by_cases hji : j = i
    · subst hji; exact hy.wpOp hi hT ⟨⟨hS2, hS.imp (anyLate_mono _) id⟩, H⟩
    have h1 := H.2 j (ready_mono hj hji)
    obtain ⟨hun, oj, hoj, hall⟩ := mem_ready.1 hj
    have hi0 := (mem_ready.1 hr).1
    have hnot := ready_unlisted hi0 hj hoj
    have h2 := wpOp_putIf hoj (hfree j oj hoj hji hun hnot) (fun cs b => hsel i oi cs b hi) (fun cs b => hsel j oj cs b hoj) hQ hy h1
    have hfree2 : ∀ k ok, ops[k]? = some ok → k ≠ i → (listed.setIfInBounds j true).getD k true = false → (∀ e ∈ ok.after, Region.binds md e = true → e.on ≠ i) → oi.apart ops ok = true := fun k ok hk hki hu hno => by
      refine hfree k ok hk hki ?_ hno
      by_cases hjk : j = k
      · subst hjk; exact hun
      · rw [getD_set_ne true hjk] at hu; exact hu
    refine wpOp_mono (fun a' w' h3 => ?_) h2
    have hS2' := h3.2.1.1
    have hL := h3.2.1.2
    rw [Array.setIfInBounds_comm _ _ (Ne.symm hji)] at hL
    have hL2 : anyLate z (listed.setIfInBounds j true) = true ∨ S w' := hL.imp (anyLate_set hiz) id
    have hB2 : (∀ w, S2 w → T w) ∨ ((∀ w, S w → T w) ∧ blk md ops z Bk (listed.setIfInBounds j true) i = true) := hB.imp id fun h => ⟨h.1, blk_set h.2 (blk_not h.2 hi0 hj hoj)⟩
    have hT2 : T w' := by
      rcases hB2 with h | ⟨h, hb⟩
      · exact h _ hS2'
      · refine h _ (hL2.resolve_left fun e => ?_)
        rw [blk_late hb] at e; cases e
    refine ⟨⟨hS2', hL2⟩, ih (listed.setIfInBounds j true) a' w' hB2 hfree2 (ready_mono hr (Ne.symm hji)) h3.1 hS2' hT2 hL2 ?_⟩
    rw [Array.setIfInBounds_comm _ _ hji]
    exact h3.2.2
/-- an operation that needs S is taken first -/
theorem wpAnyY_take {i : Nat} {oi : Oper} {v : Value} {fuel : Nat} {listed : Array Bool} {a : Act} {w : World} (Bk : List Nat) (hi : ops[i]? = some oi)
    (hs : Region.noSelect ops = true) (hf : Region.free md ops listed i = true) (hr : (Region.ready md ops listed).contains i = true) (hw : blk md ops z Bk listed i = true) (hiz : Nat.blt i z = true)
    (hQ : ∀ c a w, Q (.panic c) (a.put oi.dst v) w → Q (.panic c) a w) (hy : YieldsIf P ops S oi v a) (hSS : ∀ w, S w → S2 w) (hS : S w)
    (h : wpAnyY P md ops Q S S2 z fuel (listed.setIfInBounds i true) (a.put oi.dst v) w) : wpAnyY P md ops Q S S2 z (fuel + 1) listed a w :=
  wpAnyY_first hi (Region.noSelect_spec hs) hQ Bk (by simpa using hiz) fuel listed a w (.inr ⟨fun _ h => h, hw⟩) (Region.free_spec hi hf) (by simpa using hr) hy (hSS _ hS) hS (.inr hS) h
theorem wpAnyY_ready {i : Nat} {fuel : Nat} {listed : Array Bool} {a : Act} {w : World} {o : Oper} (hr : Region.ready md ops listed = [i]) (ho : ops[i]? = some o) (hSS : ∀ w, S w → S2 w)
    (h : ∀ K' : Act → World → Prop, Shut (∀ a w, S w → (S w → wpAnyY P md ops Q S S2 z fuel (listed.setIfInBounds i true) a w) → K' a w) → if Region.wanted o (yielded ops a.tmps) = true then Oper.wp P o a w K' Q else K' (a.put o.dst undef) w) :
    wpAnyY P md ops Q S S2 z (fuel + 1) listed a w :=
  ⟨fun h0 => absurd (hr.symm.trans h0) (by simp), by
    rw [hr]
    intro j hj
    rcases List.mem_singleton.1 hj with rfl
    exact wpOp_step ho (fun K' hK => h K' (fun a w hS hW => hK a w ⟨⟨hSS _ hS, .inr hS⟩, hW hS⟩))⟩
/-- an operation from z on -/
theorem wpAnyY_late {i : Nat} {fuel : Nat} {listed : Array Bool} {a : Act} {w : World} {o : Oper} (hz : anyLate z (listed.setIfInBounds i true) = true) (hr : Region.ready md ops listed = [i]) (ho : ops[i]? = some o)
    (h : ∀ K' : Act → World → Prop, Shut (∀ a w, S2 w → wpAnyY P md ops Q S S2 z fuel (listed.setIfInBounds i true) a w → K' a w) → if Region.wanted o (yielded ops a.tmps) = true then Oper.wp P o a w K' Q else K' (a.put o.dst undef) w) :
    wpAnyY P md ops Q S S2 z (fuel + 1) listed a w :=
  ⟨fun h0 => absurd (hr.symm.trans h0) (by simp), by
    rw [hr]
    intro j hj
    rcases List.mem_singleton.1 hj with rfl
    exact wpOp_step ho (fun K' hK => h K' (fun a w h2 hW => hK a w ⟨⟨h2, .inl hz⟩, hW⟩))⟩
theorem wpAnyY_last {i : Nat} {fuel : Nat} {listed : Array Bool} {a : Act} {w : World} {o : Oper} (hz : anyLate z (listed.setIfInBounds i true) = true) (hr : Region.ready md ops listed = [i]) (hr2 : Region.ready md ops (listed.setIfInBounds i true) = []) (ho : ops[i]? = some o)
    (h : ∀ K' : Act → World → Prop, Shut (∀ a w, S2 w → Q .normal a w → K' a w) → if Region.wanted o (yielded ops a.tmps) = true then Oper.wp P o a w K' Q else K' (a.put o.dst undef) w) :
    wpAnyY P md ops Q S S2 z (fuel + 1) listed a w :=
  ⟨fun h0 => absurd (hr.symm.trans h0) (by simp), by
    rw [hr]
    intro j hj
    rcases List.mem_singleton.1 hj with rfl
    refine wpOp_step ho (fun K' hK => h K' (fun a w h2 hq => hK a w ⟨⟨h2, .inl hz⟩, ?_⟩))
    cases fuel with
    | zero => exact ⟨hr2, hq⟩
    | succ n => exact ⟨fun _ => hq, by rw [hr2]; intro k hk; exact absurd hk List.not_mem_nil⟩⟩
end
end Go.Proofs.YtlmkokeapbleoaaGreat
end
