/- Contract of table.node. Condition: the table is known. -/
import Derived.Test.YticfbbigljgjdaaTabRight
import Derived.Deep.RegionHeld3
import Derived.Deep.DeepCutAuto
namespace Go.Proofs.Yticfbbigljgjdaa
open Go.RowKit
set_option linter.unusedVariables false
set_option linter.unusedSimpArgs false

/-- a table's own block -/
def TabBox (b : Nat) (cs : Array Value) (W : World) : Prop := W.heap[b]? = some (.cells cs 27 (0, 0))
theorem TabBox.below {b : Nat} {cs : Array Value} {W W' : World} (h : TabBox b cs W) (hb : Below W.heap.size W W') : TabBox b cs W' :=
  (hb.block b (by unfold TabBox at h; exact (Array.getElem?_eq_some_iff.1 h).1)).trans h
theorem TabBox.cell {b : Nat} {cs : Array Value} {W : World} (h : TabBox b cs W) (i : Nat) : W.cell? ⟨b, i, none⟩ = cs[i]? := by
  unfold TabBox at h; simp [World.cell?, h]
theorem TabBox.cell1 {b : Nat} {cs : Array Value} {W : World} (h : TabBox b cs W) {i : Nat} {v : Value} (hv : cs[i]? = some v) : W.cell? ⟨b, i, none⟩ = some v := (h.cell i).trans hv
theorem St.tbox {w0 w : World} {F : World → Prop} (hK : Hid (St w0 w F)) (cs : Array Value) : Hid (St w0 (w.alloc (.cells cs 27)) (fun W => TabBox w.heap.size cs W ∧ F W)) :=
  Lib.hid (hK.out.add ((Below.refl _ _).alloc (Nat.le_refl _) _) fun W hW => TabBox.below (heap_alloc_new w _) hW)
theorem nodesL_at {T : TabI} {j : Nat} {q : NodeI} (h : T.ns[j]? = some q) : T.L.nodes[j]? = some q.L := by
  show (T.ns.map NodeI.L)[j]? = _
  rw [List.getElem?_map, h]; rfl
theorem actsL_at {T : TabI} {j : Nat} {q : ActI} (h : T.acts[j]? = some q) : T.L.acts[j]? = some q.L := by
  show (T.acts.map ActI.L)[j]? = _
  rw [List.getElem?_map, h]; rfl
theorem endsL_at {T : TabI} {j : Nat} {q : OutI} (h : T.es[j]? = some q) : T.L.ends[j]? = some q.L := by
  show (T.es.map OutI.L)[j]? = _
  rw [List.getElem?_map, h]; rfl
theorem nodesL_len (T : TabI) : T.L.nodes.length = T.ns.length := List.length_map _
theorem actsL_len (T : TabI) : T.L.acts.length = T.acts.length := List.length_map _
theorem endsL_len (T : TabI) : T.L.ends.length = T.es.length := List.length_map _
def NextsTo (T : TabL) (h : Int) (l : List Int) (k : Nat) : Prop := ∀ x ∈ l.take k, NextOk T h x
theorem NextsTo.all {T : TabL} {h : Int} {l : List Int} (H : NextsTo T h l l.length) : ∀ x ∈ l, NextOk T h x := fun x hx => H x (by rwa [List.take_length])
theorem NextsTo.next {T : TabL} {h : Int} {l : List Int} {k : Nat} {x : Int} (H : NextsTo T h l k) (hx : l[k]? = some x) (hi : NextOk T h x) : NextsTo T h l (k + 1) := fun q hq => by
  rw [take_snoc? hx] at hq
  rcases List.mem_append.1 hq with hq | hq
  · exact H q hq
  · simp at hq; subst hq; exact hi
def EndOk (T : TabL) (h e : Int) : Prop := 0 ≤ e → ∃ l, T.ends[e.toNat]? = some l ∧ TermsOk h l
theorem next_at {T : TabL} {h : Int} {j : Nat} {q : NodeL} (hq : T.nodes[j]? = some q) (hx : NextOk T h (j : Int)) : q.held = h + 1 := by
  rcases hx with hx | ⟨_, ⟨_, n, hn, h1⟩ | ⟨h1, _⟩⟩
  · omega
  · rw [Int.toNat_natCast, hq] at hn; injection hn with hn; subst hn; exact h1
  · omega
theorem next_act {T : TabL} {h x : Int} {j : Nat} {a : ActL} (hj : -2 - x = (j : Int)) (ha : T.acts[j]? = some a) (hx : NextOk T h x) : a.eat ≤ h + 1 ∧ TermsOk (h + 1) a.out := by
  rcases hx with hx | ⟨_, ⟨h1, _⟩ | ⟨_, n, hn, h1⟩⟩
  · omega
  · omega
  · rw [hj, Int.toNat_natCast, ha] at hn; injection hn with hn; subst hn; exact h1

section
variable {w0 w : World} {F : World → Prop}
set_option maxRecDepth 100000 in
set_option maxHeartbeats 64000000 in
theorem node_st (hK : Hid (St w0 w F)) (cs : Array Value) (T : TabI) (hC : TabC cs T) (ht : ∀ W, F W → TabW T W) (n : NodeI) (hn : ∀ W, F W → NodeW n W) (k : Nat) (v : Bool) (hv : Hid (pB (NodeOk T.L k n.L) = v))
    (hl1 : T.ns.length ≤ 4096) (hl2 : T.acts.length ≤ 4096) (hl3 : T.es.length ≤ 4096) (hl4 : k ≤ 256) :
    Calls Try.prog 32 #[.agg cs, .agg #[.int .i64 n.h, .slice n.na n.nx.length n.nc, .int .i64 n.e], .int .i64 k] w (RetV w0 (.bool v) F) := by
  have HT := Lib.hid ht
  have HN := Lib.hid hn
  have h258 := hC.c3
  have h257 := hC.c2
  have h256 := hC.c1
  have HK1 := St.tbox hK cs
  have HK := St.box HK1 [.int .i64 n.h, .slice n.na n.nx.length n.nc, .int .i64 n.e] 47
  have hz : (w.alloc (.cells cs 27)).heap.size = w.heap.size + 1 := by simp
  rw [hz] at HK
  clear ht hn hz HK1
  obtain ⟨hd0, na, nc, nx, e⟩ := n
  simp only at HK ⊢
  have hres : ∀ W, Hid (St w0 W (fun W => BoxC (w.heap.size + 1) [.int .i64 hd0, .slice na nx.length nc, .int .i64 e] W ∧ TabBox w.heap.size cs W ∧ F W)) → Hid (St w0 W F) := fun W h => Lib.hid (h.out.weaken fun _ h => h.2.2)
  have HRES := Lib.hid hres
  clear hres
  by_cases b1 : 0 ≤ hd0
  case neg =>
    obtain rfl := pB_f hv (fun H => b1 H.1.1)
    go_enter Try.func32, Try.ntmps32
    go_wp2_with fail
    go_ret
    exact ⟨rfl, HRES.out _ HK⟩
  by_cases b2 : hd0 ≤ 4
  case neg =>
    obtain rfl := pB_f hv (fun H => b2 H.1.2.1)
    go_enter Try.func32, Try.ntmps32
    go_wp2_with fail
    go_ret
    exact ⟨rfl, HRES.out _ HK⟩
  by_cases b3 : (nx.length : Int) = k
  case neg =>
    obtain rfl := pB_f hv (fun H => b3 (by have := H.1.2.2.1; exact_mod_cast this))
    go_enter Try.func32, Try.ntmps32
    go_wp2_with fail
    go_ret
    exact ⟨rfl, HRES.out _ HK⟩
  obtain rfl : nx.length = k := by omega
  by_cases b4 : -1 ≤ e
  case neg =>
    obtain rfl := pB_f hv (fun H => b4 H.1.2.2.2.1)
    clear b3
    go_enter Try.func32, Try.ntmps32
    go_wp2_with fail
    go_ret
    exact ⟨rfl, HRES.out _ HK⟩
  by_cases b5 : e < (T.es.length : Int)
  case neg =>
    obtain rfl := pB_f hv (fun H => b5 (by have := H.1.2.2.2.2; rw [endsL_len] at this; exact this))
    clear b3
    go_enter Try.func32, Try.ntmps32
    go_wp2_with fail
    go_ret
    exact ⟨rfl, HRES.out _ HK⟩
  have HHD : Hid (NodeHead T.L nx.length ⟨hd0, nx, e⟩) := Lib.hid ⟨b1, b2, rfl, b4, by rw [endsL_len]; exact b5⟩
  clear b3
  go_enter Try.func32, Try.ntmps32
  go_wp2_with fail
  have q3 := HK.out.now.2.1.cell1 h258
  obtain ⟨q0, q1, q2⟩ := HK.out.now.1.c3
  go_cut [52] (fun s wr => ∃ b : Bool, s = .bool b ∧ Hid ((b = true ∧ v = false) ∨ (b = false ∧ EndOk T.L hd0 e)) ∧ Hid (St w0 wr (fun W => BoxC (w.heap.size + 1) [.int .i64 hd0, .slice na nx.length nc, .int .i64 e] W ∧ TabBox w.heap.size cs W ∧ F W)))
  case first =>
    by_cases b6 : 0 ≤ e
    · obtain ⟨j, rfl⟩ := Int.eq_ofNat_of_zero_le b6
      have b5' : j < T.es.length := by omega
      obtain ⟨eb, eo, o, hA, ho, how, hec⟩ := (HT.out _ HK.out.now.2.2).ends.at_ b5'
      have g258 := h258
      rw [hA] at g258 q3
      have HO := Lib.hid ho
      have HK := Lib.hid (HK.out.add (Below.refl _ _) (G := fun W => W.cell? ⟨eb, eo + j, none⟩ = some (.slice o.a o.l.length o.c) ∧ OutW o W) (fun W hW => ⟨(hW.cell (p := ⟨eb, eo + j, none⟩) (lt_of_cell hec)).trans hec, OutW.stays _ _ _ how hW⟩))
      have HK := St.hdrewN HK 1
      clear ho how
      obtain ⟨z, hz, hzv⟩ : ∃ z : Bool, pB (TermsOk hd0 (o.l.map TermI.L)) = z ∧ Hid ((!z) = true ∧ v = false ∨ (!z) = false ∧ EndOk T.L hd0 (j : Int)) := by
        by_cases a2 : TermsOk hd0 (o.l.map TermI.L)
        · exact ⟨true, pB_true a2, Lib.hid (.inr ⟨rfl, fun _ => ⟨_, endsL_at HO.out, a2⟩⟩)⟩
        · refine ⟨false, pB_false a2, Lib.hid (.inl ⟨rfl, pB_f hv fun H => a2 ?_⟩)⟩
          obtain ⟨l, h1, h2⟩ := H.2.1 b6
          have h3 := endsL_at HO.out
          have h1' : T.L.ends[j]? = some l := h1
          rw [h1'] at h3; injection h3 with h3; subst h3; exact h2
      have H2 := Lib.hid hz
      clear hz b5
      go_region_held3 (fun W => W.cell? ⟨w.heap.size + 1, 2, none⟩ = some (.int .i64 j) ∧ W.cell? ⟨w.heap.size + 1, 0, none⟩ = some (.int .i64 hd0) ∧ W.cell? ⟨w.heap.size, 258, none⟩ = some (.slice (some ⟨eb, eo, none⟩) T.es.length T.ec) ∧ W.cell? ⟨eb, eo + j, none⟩ = some (.slice o.a o.l.length o.c))
        (first | exact ⟨HK.out.now.2.1 2 _ rfl, HK.out.now.2.1 0 _ rfl, HK.out.now.2.2.1.cell1 g258, HK.out.now.1.1⟩ | go_keep)
        ((go_at_call 39; refine (right_st HK (fun _ h => h.1.2) o.c hd0 z H2).mono ?_; rintro e5 w5 ⟨rfl, HK⟩))
      go_wp2_with fail
      go_meet
      exact ⟨!z, rfl, hzv, Lib.hid (HK.out.weaken fun _ h => h.2)⟩
    · have hg : decide (0 ≤ e) = false := decide_eq_false b6
      have HEN : Hid (EndOk T.L hd0 e) := Lib.hid (fun h => absurd h b6)
      go_quiet (fail)
      go_wp2_with fail
      go_meet
      exact ⟨false, rfl, Lib.hid (.inr ⟨rfl, HEN.out⟩), St.hdrewN HK nq⟩
  case rest =>
  clear HK q0 q1 q2 q3
  obtain ⟨b, rfl, hb, HK⟩ := hcut
  rcases hb.out with ⟨rfl, rfl⟩ | ⟨rfl, hen⟩
  · clear hb
    go_wp2_with fail
    go_ret
    exact ⟨rfl, HRES.out _ HK⟩
  have HEN := Lib.hid hen
  obtain ⟨q0, q1, q2⟩ := HK.out.now.1.c3
  clear hb hen q0 q2 b4 b5
  go_wp2_with fail
  go_loopw [56] (fun i wr => ∃ m : Nat, m ≤ nx.length ∧ i = .int .i64 m ∧ Hid (NextsTo T.L hd0 nx m) ∧ Hid (St w0 wr (fun W => BoxC (w.heap.size + 1) [.int .i64 hd0, .slice na nx.length nc, .int .i64 e] W ∧ TabBox w.heap.size cs W ∧ F W))) (fun i _ => nx.length - (intOf i).toNat)
  case atStart => exact ⟨0, Nat.zero_le _, rfl, Lib.hid (fun x hx => by simp at hx), HK⟩
  case round =>
  clear HK q1
  obtain ⟨m, hm, rfl, HR, HK⟩ := hrel
  by_cases hlt : m < nx.length
  · obtain ⟨q0, q1, q2⟩ := HK.out.now.1.c3
    have p6 := HK.out.now.2.1.cell1 h256
    have p7 := HK.out.now.2.1.cell1 h257
    obtain ⟨nb, no, x, hA, hx, hix, hxc⟩ := (HN.out _ HK.out.now.2.2).2.at_ hlt
    simp only at hA
    subst hA
    have HX := Lib.hid hx
    have HNO : Hid (¬ NextOk T.L hd0 x → v = false) := Lib.hid fun H => pB_f hv (fun H2 => H (H2.2.2 x (List.mem_of_getElem? HX.out)))
    have HYE : Hid (NextOk T.L hd0 x → NextsTo T.L hd0 nx (m + 1)) := Lib.hid fun H => HR.out.next HX.out H
    clear hx hix hm HX HR
    by_cases c1 : x = -1
    · subst c1
      have hg : decide ((0 : Int) ≤ -1) = false := by decide
      have HYE2 := Lib.hid (HYE.out (.inl rfl))
      go_wp2_with fail
      go_quiet (fail)
      go_wp2_with fail
      exact ⟨⟨m + 1, by omega, by go_num, HYE2, St.hdrewN HK nq⟩, by simp [intOf]; omega⟩
    have c1a : (x == -1) = false := by rw [beq_eq_false_iff_ne]; exact c1
    have c1b : (x != -1) = true := by rw [bne_iff_ne]; exact c1
    by_cases c3 : (T.ns.length : Int) ≤ x
    · obtain rfl := HNO.out (fun H => by
        rcases H with H | ⟨_, ⟨_, n, hn, _⟩ | ⟨H, _⟩⟩
        · exact c1 H
        · have := (List.getElem?_eq_some_iff.1 hn).1
          rw [nodesL_len] at this; omega
        · omega)
      clear c1 c1a c1b
      go_wp2_with fail
      go_ret
      exact ⟨rfl, HRES.out _ HK⟩
    by_cases c4 : x < -1 - (T.acts.length : Int)
    · obtain rfl := HNO.out (fun H => by
        rcases H with H | ⟨_, ⟨_, n, hn, _⟩ | ⟨_, n, hn, _⟩⟩
        · exact c1 H
        · omega
        · have := (List.getElem?_eq_some_iff.1 hn).1
          rw [actsL_len] at this; omega)
      clear c1 c1a c1b
      go_wp2_with fail
      go_ret
      exact ⟨rfl, HRES.out _ HK⟩
    by_cases c2 : hd0 = 4
    · obtain rfl := HNO.out (fun H => by
        rcases H with H | ⟨H, _⟩
        · exact c1 H
        · exact H c2)
      have c2a : (hd0 == 4) = true := by rw [beq_iff_eq]; exact c2
      clear c1 c2
      go_wp2_with fail
      go_ret
      exact ⟨rfl, HRES.out _ HK⟩
    have c2a : (hd0 == 4) = false := by rw [beq_eq_false_iff_ne]; exact c2
    have hs : IntKind.i64.wrap (hd0 + 1) = hd0 + 1 := IntWalk.i64_in _ (by omega)
    by_cases c5 : 0 ≤ x
    · obtain ⟨j, rfl⟩ := Int.eq_ofNat_of_zero_le c5
      have hjl : j < T.ns.length := by omega
      obtain ⟨qb, qo, q, hB, hq, hqw, r0, r1, r2⟩ := (HT.out _ HK.out.now.2.2).nodes.at_ hjl
      have p6' := p6
      rw [hB] at p6'
      have HQ := Lib.hid hq
      have hg : decide ((0 : Int) ≤ (j : Int)) = true := decide_eq_true c5
      have hji : (j : Int) < (T.ns.length : Int) := by omega
      clear p6 hq hqw c1 r1 r2 c1a
      by_cases c6 : q.h = hd0 + 1
      · have HYE2 := Lib.hid (HYE.out (.inr ⟨c2, .inl ⟨c5, _, nodesL_at HQ.out, c6⟩⟩))
        have c6a : (q.h != hd0 + 1) = false := by rw [bne_eq_false_iff_eq]; exact c6
        clear c6 c2 c3 hjl
        go_wp2_with fail
        go_quiet (fail)
        go_wp2_with fail
        exact ⟨⟨m + 1, by omega, by go_num, HYE2, St.hdrewN HK nq⟩, by simp [intOf]; omega⟩
      · obtain rfl := HNO.out (fun H => c6 (next_at (nodesL_at HQ.out) H))
        have c6a : (q.h != hd0 + 1) = true := by rw [bne_iff_ne]; exact c6
        clear c6 c2 c3 hjl
        go_wp2_with fail
        go_quiet (fail)
        go_wp2_with fail
        go_ret
        exact ⟨rfl, HRES.out _ (St.hdrewN HK nq)⟩
    · obtain ⟨j, hj⟩ := Int.eq_ofNat_of_zero_le (show 0 ≤ -2 - x by omega)
      have hjl : j < T.acts.length := by omega
      obtain ⟨ab, ao, a, hB, ha, haw, r0, r1, r2⟩ := (HT.out _ HK.out.now.2.2).acts.at_ hjl
      have p7' := p7
      rw [hB] at p7'
      have HA := Lib.hid ha
      have HJ := Lib.hid hj
      have hg : decide ((0 : Int) ≤ x) = false := decide_eq_false c5
      have hx2 : x < -1 := by omega
      have hji : (j : Int) < (T.acts.length : Int) := by omega
      have hj0 : (0 : Int) ≤ (j : Int) := by omega
      clear p7 ha c1 c1a c5
      have HKo := Lib.hid (HK.out.add (Below.refl _ _) (G := OutW a.o) (fun W hW => OutW.stays _ _ _ haw.2 hW))
      clear haw
      go_wp2_with fail
      go_quiet (fail)
      have HKd := St.hdrewN HKo nq
      generalize hW2 : wr.drewN nq = W2 at HKd ⊢
      have e0 : ∀ p, W2.cell? p = wr.cell? p := fun p => by rw [← hW2]; rfl
      rw [← e0] at q0 q1 p7' r0 r1 r2
      have l0 := lt_of_cell q0
      have l1 : w.heap.size < W2.heap.size := by omega
      clear e0 hW2 q2 p6
      have HK := St.box HKd [.int .i64 a.e, .int .i64 a.d, .slice a.o.a a.o.l.length a.o.c] 51
      by_cases c7 : a.e ≤ hd0 + 1
      · by_cases a2 : TermsOk (hd0 + 1) (a.o.l.map TermI.L)
        · have H2 := Lib.hid (pB_true a2)
          have HYE2 := Lib.hid (HYE.out (.inr ⟨c2, .inr ⟨by omega, a.L, by rw [HJ.out, Int.toNat_natCast]; exact actsL_at HA.out, c7, a2⟩⟩))
          clear a2 c2
          go_wp2_with fail
          refine (right_st HK (fun _ h => h.2.1) a.o.c (hd0 + 1) true H2).mono ?_
          rintro e5 w5 ⟨rfl, HK⟩
          go_wp2_with fail
          exact ⟨⟨m + 1, by omega, by go_num, HYE2, Lib.hid (HK.out.weaken fun _ h => h.2.2)⟩, by simp [intOf]; omega⟩
        · have H2 := Lib.hid (pB_false a2)
          obtain rfl := HNO.out (fun H => a2 (next_act HJ.out (actsL_at HA.out) H).2)
          clear a2 c2
          go_wp2_with fail
          refine (right_st HK (fun _ h => h.2.1) a.o.c (hd0 + 1) false H2).mono ?_
          rintro e5 w5 ⟨rfl, HK⟩
          go_wp2_with fail
          go_ret
          exact ⟨rfl, HRES.out _ (Lib.hid (HK.out.weaken fun _ h => h.2.2))⟩
      · obtain rfl := HNO.out (fun H => c7 (next_act HJ.out (actsL_at HA.out) H).1)
        clear c2
        go_wp2_with fail
        go_ret
        exact ⟨rfl, HRES.out _ (Lib.hid (HK.out.weaken fun _ h => h.2.2))⟩
  · obtain rfl : m = nx.length := by omega
    have hd : decide (nx.length < nx.length) = false := by simp
    obtain rfl := pB_t hv ⟨HHD.out, HEN.out, HR.out.all⟩
    go_wp2_with fail
    go_ret
    exact ⟨rfl, HRES.out _ HK⟩
end
end Go.Proofs.Yticfbbigljgjdaa
