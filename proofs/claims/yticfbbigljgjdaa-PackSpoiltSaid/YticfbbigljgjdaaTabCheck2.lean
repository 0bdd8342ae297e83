/- Contract of table.Check. Condition: the table is known. -/
import Derived.Test.YticfbbigljgjdaaTabCheck
import Derived.Deep.DeepCutAuto
import Derived.Deep.QuietTactic
namespace Go.Proofs.Yticfbbigljgjdaa
open Go.RowKit
set_option linter.unusedVariables false
set_option linter.unusedSimpArgs false
def ActsTo (T : TabL) (l : List ActI) (m : Nat) : Prop := ∀ i ∈ l.take m, ActOk T i.L
theorem ActsTo.all {T : TabL} {l : List ActI} (h : ActsTo T l l.length) : ∀ n ∈ l.map ActI.L, ActOk T n := fun t ht => by
  obtain ⟨i, hi, rfl⟩ := List.mem_map.1 ht
  exact h i (by rwa [List.take_length])
theorem ActsTo.next {T : TabL} {l : List ActI} {m : Nat} {i : ActI} (h : ActsTo T l m) (hx : l[m]? = some i) (hi : ActOk T i.L) : ActsTo T l (m + 1) := fun q hq => by
  rw [take_snoc? hx] at hq
  rcases List.mem_append.1 hq with hq | hq
  · exact h q hq
  · simp at hq; subst hq; exact hi
def EndsTo (l : List OutI) (m : Nat) : Prop := ∀ i ∈ l.take m, i.l.length ≤ 64
theorem EndsTo.all {l : List OutI} (h : EndsTo l l.length) : ∀ n ∈ l.map OutI.L, n.length ≤ 64 := fun t ht => by
  obtain ⟨i, hi, rfl⟩ := List.mem_map.1 ht
  have := h i (by rwa [List.take_length])
  simpa [OutI.L] using this
theorem EndsTo.next {l : List OutI} {m : Nat} {i : OutI} (h : EndsTo l m) (hx : l[m]? = some i) (hi : i.l.length ≤ 64) : EndsTo l (m + 1) := fun q hq => by
  rw [take_snoc? hx] at hq
  rcases List.mem_append.1 hq with hq | hq
  · exact h q hq
  · simp at hq; subst hq; exact hi
theorem outL_len (o : OutI) : o.L.length = o.l.length := List.length_map _
def HeadK (T : TabL) (K : Nat) : Prop := 1 ≤ K ∧ K ≤ 256 ∧ ∀ c ∈ T.cls, c < K
section
variable {w0 w : World} {F : World → Prop}
set_option maxRecDepth 100000 in
set_option maxHeartbeats 64000000 in
theorem Check_st (hK : Hid (St w0 w F)) (cs : Array Value) (T : TabI) (hC : TabC cs T) (ht : ∀ W, F W → TabW T W) (v : Bool) (hv : Hid (pB (TabOk T.L) = v)) :
    Calls Try.prog 16 #[.agg cs] w (RetV w0 (.bool v) F) := by
  have HT := Lib.hid ht
  have h258 := hC.c3
  have h257 := hC.c2
  have h256 := hC.c1
  have HK := St.tbox hK cs
  have HRES : Hid (∀ W (G : World → Prop), Hid (St w0 W (fun W => G W ∧ F W)) → Hid (St w0 W F)) := Lib.hid fun W G h => Lib.hid (h.out.weaken fun _ h => h.2)
  have HNO : Hid (¬ TabOk T.L → v = false) := Lib.hid fun H => pB_f hv H
  clear ht
  have hln1 := (HT.out _ HK.out.now.2).nodes.ln
  have hln2 := (HT.out _ HK.out.now.2).acts.ln
  have hln3 := (HT.out _ HK.out.now.2).ends.ln
  by_cases a1 : T.ns.length = 0
  · obtain rfl := HNO.out (fun H => by
      obtain ⟨n, hn, _⟩ := H.head.2.2.2
      have := (List.getElem?_eq_some_iff.1 hn).1
      rw [nodesL_len] at this; omega)
    have a1' : (T.ns.length : Int) < 1 := by omega
    clear a1
    go_enter Try.func16, Try.ntmps16
    go_wp2_with fail
    go_ret
    exact ⟨rfl, HRES.out _ _ HK⟩
  by_cases a2 : ¬ T.ns.length ≤ 4096
  · obtain rfl := HNO.out (fun H => a2 (by have := H.head.1; rwa [nodesL_len] at this))
    have a2' : (4096 : Int) < T.ns.length := by omega
    clear a1 a2
    go_enter Try.func16, Try.ntmps16
    go_wp2_with fail
    go_ret
    exact ⟨rfl, HRES.out _ _ HK⟩
  by_cases a3 : ¬ T.acts.length ≤ 4096
  · obtain rfl := HNO.out (fun H => a3 (by have := H.head.2.1; rwa [actsL_len] at this))
    have a3' : (4096 : Int) < T.acts.length := by omega
    clear a1 a2 a3
    go_enter Try.func16, Try.ntmps16
    go_wp2_with fail
    all_goals (go_ret; exact ⟨rfl, HRES.out _ _ HK⟩)
  by_cases a4 : ¬ T.es.length ≤ 4096
  · obtain rfl := HNO.out (fun H => a4 (by have := H.head.2.2.1; rwa [endsL_len] at this))
    have a4' : (4096 : Int) < T.es.length := by omega
    clear a1 a2 a3 a4
    go_enter Try.func16, Try.ntmps16
    go_wp2_with fail
    all_goals (go_ret; exact ⟨rfl, HRES.out _ _ HK⟩)
  have hl1 : T.ns.length ≤ 4096 := by omega
  have hl2 : T.acts.length ≤ 4096 := by omega
  have hl3 : T.es.length ≤ 4096 := by omega
  have hl0 : 0 < T.ns.length := by omega
  clear a1 a2 a3 a4 hln1 hln2 hln3
  obtain ⟨nb, no, n0, hA, hn0, hn0w, r0, r1, r2⟩ := (HT.out _ HK.out.now.2).nodes.at_ hl0
  have g256 := h256
  rw [hA] at g256
  have hln0 := hn0w.2.ln
  rw [Nat.zero_mul, Nat.add_zero] at r0 r1 r2
  have HN0 := Lib.hid hn0
  have HR1 : Hid (∀ W, F W → W.cell? ⟨nb, no + 1, none⟩ = some (.slice n0.na n0.nx.length n0.nc)) := Lib.hid fun W hW => by
    obtain ⟨nb', no', n0', hA', hn0', _, _, r1', _⟩ := (HT.out _ hW).nodes.at_ hl0
    rw [hA] at hA'; injection hA' with hA'; injection hA' with e1 e2; subst e1; subst e2
    rw [hn0] at hn0'; injection hn0' with hn0'; subst hn0'
    rw [Nat.zero_mul, Nat.add_zero] at r1'; exact r1'
  clear hn0 hn0w
  have hlz : nb < w.heap.size := by
    have hx := (HT.out _ hK.out.now).nodes.at_ hl0
    obtain ⟨nb', no', n0', hA', _, _, r0', _⟩ := hx
    rw [hA] at hA'; injection hA' with hA'; injection hA' with e1 e2; subst e1
    exact lt_of_cell r0'
  by_cases a5 : ¬ n0.h = 0
  · obtain rfl := HNO.out (fun H => a5 (by
      obtain ⟨n, hn, h1, _⟩ := H.head.2.2.2
      rw [nodesL_at HN0.out] at hn; injection hn with hn; subst hn; exact h1))
    have a5' : (n0.h != 0) = true := by rw [bne_iff_ne]; exact a5
    clear a5
    go_enter Try.func16, Try.ntmps16
    go_wp2_with fail
    go_ret
    exact ⟨rfl, HRES.out _ _ HK⟩
  have a5 := Classical.not_not.1 a5
  have a5' : (n0.h != 0) = false := by rw [bne_eq_false_iff_eq]; exact a5
  have HA5 := Lib.hid a5
  have HW : Hid (widthL T.L = n0.nx.length) := Lib.hid (widthL_at (nodesL_at HN0.out))
  have hw0 : (w.alloc (.cells cs 27)).heap.size = w.heap.size + 1 := by simp
  have HKk := St.box HK [.int .i64 (n0.nx.length : Int)] 3
  rw [hw0] at HKk
  clear a5 hw0
  obtain ⟨K, hKn⟩ : ∃ K, n0.nx.length = K := ⟨_, rfl⟩
  rw [hKn] at HW HKk r1 HR1
  have HKN := Lib.hid hKn
  obtain ⟨M, hM⟩ : ∃ M, maxL T.cls = M := ⟨_, rfl⟩
  have hMb := maxL_bd hC.u8
  rw [hM] at hMb
  have HM := Lib.hid hM
  have HQ : Hid (∀ n, Calls Try.prog 29 #[.slice (some ⟨w.heap.size, 0, none⟩) 256 256] (((w.alloc (.cells cs 27)).alloc (.cells #[.int .i64 (K : Int)] 3)).drewN n) fun e w'' => e = .returned (.int .u8 M) ∧ ∃ m, w'' = ((w.alloc (.cells cs 27)).alloc (.cells #[.int .i64 (K : Int)] 3)).drewN m) := Lib.hid fun n => by
    have h := maxU8_any w.heap.size T.cls hC.u8 hC.ln (((w.alloc (.cells cs 27)).alloc (.cells #[.int .i64 (K : Int)] 3)).drewN n) (fun i x hx => HKk.out.now.2.1.cell1 (hC.cl i x hx))
    rw [hM] at h
    exact h.mono fun e w'' ⟨h1, h2⟩ => ⟨h1, n, h2.symm⟩
  have HMK : Hid (1 ≤ K → (M < (K : Int) ↔ ∀ c ∈ T.L.cls, c < (K : Int))) := Lib.hid fun h => by rw [← HM.out]; exact maxL_lt T.cls K (by omega)
  clear hM hKn
  obtain ⟨hM0, hM1⟩ := hMb
  have hKb : K ≤ 9223372036854775807 := by rw [← HKN.out]; exact hln0
  clear hln0
  have r1' : w.cell? ⟨nb, no + 1, none⟩ = some (.slice n0.na K n0.nc) := HR1.out w hK.out.now
  go_enter Try.func16, Try.ntmps16
  go_wp2_with fail
  go_cut [57] (fun s wr => ∃ b : Bool, s = .bool b ∧ Hid ((b = true ∧ v = false) ∨ (b = false ∧ HeadK T.L K)) ∧ Hid (St w0 wr (fun W => BoxC (w.heap.size + 1) [.int .i64 (K : Int)] W ∧ TabBox w.heap.size cs W ∧ F W)))
  case first =>
    have hkc := HKk.out.now.1 0 _ rfl
    by_cases b1 : (K : Int) < 1
    · have g1 : decide ((K : Int) < 1) = true := decide_eq_true b1
      have HV : Hid (v = false) := Lib.hid (HNO.out (fun H => by
        obtain ⟨n, hn, _, h2, _⟩ := H.head.2.2.2
        rw [nodesL_at HN0.out] at hn; injection hn with hn; subst hn
        have h3 : 1 ≤ n0.nx.length := h2
        rw [HKN.out] at h3; omega))
      clear b1 HQ
      go_quiet (fail)
      go_wp2_with fail
      go_meet
      exact ⟨true, rfl, Lib.hid (.inl ⟨rfl, HV.out⟩), St.hdrewN HKk nq⟩
    have g1 : decide ((K : Int) < 1) = false := decide_eq_false b1
    by_cases b2 : (256 : Int) < K
    · have g2 : decide ((256 : Int) < (K : Int)) = true := decide_eq_true b2
      have HV : Hid (v = false) := Lib.hid (HNO.out (fun H => by
        obtain ⟨n, hn, _, _, h2⟩ := H.head.2.2.2
        rw [nodesL_at HN0.out] at hn; injection hn with hn; subst hn
        have h3 : n0.nx.length ≤ 256 := h2
        rw [HKN.out] at h3; omega))
      clear b1 b2 HQ
      go_quiet (fail)
      go_wp2_with fail
      go_meet
      exact ⟨true, rfl, Lib.hid (.inl ⟨rfl, HV.out⟩), St.hdrewN HKk nq⟩
    have g2 : decide ((256 : Int) < (K : Int)) = false := decide_eq_false b2
    have hmk := HMK.out (by omega)
    by_cases b3 : (K : Int) ≤ M
    · have g3 : decide ((K : Int) ≤ M) = true := decide_eq_true b3
      have HV : Hid (v = false) := Lib.hid (HNO.out (fun H => by
        have h3 := H.cls
        rw [HW.out] at h3
        have := hmk.2 h3
        omega))
      clear b1 b2 b3 hmk
      go_quiet ((go_at_call 29; exact HQ.out _))
      go_wp2_with fail
      go_meet
      exact ⟨true, rfl, Lib.hid (.inl ⟨rfl, HV.out⟩), St.hdrewN HKk nq⟩
    · have g3 : decide ((K : Int) ≤ M) = false := decide_eq_false b3
      have HH : Hid (HeadK T.L K) := Lib.hid ⟨by omega, by omega, hmk.1 (by omega)⟩
      clear b1 b2 b3 hmk
      go_quiet ((go_at_call 29; exact HQ.out _))
      go_wp2_with fail
      go_meet
      exact ⟨false, rfl, Lib.hid (.inr ⟨rfl, HH.out⟩), St.hdrewN HKk nq⟩
  case rest =>
  clear HQ HMK HKk r0 r1 r2 r1' HK
  obtain ⟨b, rfl, hb, HK⟩ := hcut
  rcases hb.out with ⟨rfl, rfl⟩ | ⟨rfl, hen⟩
  · clear hb
    go_wp2_with fail
    go_ret
    exact ⟨rfl, Lib.hid (HK.out.weaken fun _ h => h.2.2)⟩
  have HEN := Lib.hid hen
  have q7 := HK.out.now.2.1.cell1 h257
  clear hb hen
  have hfin : ∀ W, Hid (St w0 W (fun W => BoxC (w.heap.size + 1) [.int .i64 (K : Int)] W ∧ TabBox w.heap.size cs W ∧ F W)) → Hid (St w0 W F) := fun W h => Lib.hid (h.out.weaken fun _ h => h.2.2)
  have HF := Lib.hid hfin
  have hlw : w.heap.size < w.heap.size + 1 := by omega
  clear hfin
  go_wp2_with fail
  go_loopw [61] (fun i wr => ∃ m : Nat, m ≤ T.acts.length ∧ i = .int .i64 m ∧ Hid (ActsTo T.L T.acts m) ∧ Hid (St w0 wr (fun W => BoxC (w.heap.size + 1) [.int .i64 (K : Int)] W ∧ TabBox w.heap.size cs W ∧ F W))) (fun i _ => T.acts.length - (intOf i).toNat)
  case atStart => exact ⟨0, Nat.zero_le _, rfl, Lib.hid (fun i hi => by simp at hi), HK⟩
  case round =>
  clear HK q7
  obtain ⟨m, hm, rfl, HR, HK⟩ := hrel
  by_cases hlt : m < T.acts.length
  · obtain ⟨ab, ao, a, hB, ha, haw, r0, r1, r2⟩ := (HT.out _ HK.out.now.2.2).acts.at_ hlt
    have HAC := Lib.hid ha
    have q6 := HK.out.now.2.1.cell1 g256
    have l1 := lt_of_cell r0
    have l2 := lt_of_cell q6
    have HKa := St.box HK [.int .i64 a.e, .int .i64 a.d, .slice a.o.a a.o.l.length a.o.c] 51
    have HNA : Hid (¬ ActOk T.L a.L → v = false) := Lib.hid fun H => HNO.out (fun H2 => H (H2.acts _ (List.mem_map.2 ⟨a, List.mem_of_getElem? HAC.out, rfl⟩)))
    have HYA : Hid (ActOk T.L a.L → ActsTo T.L T.acts (m + 1)) := Lib.hid fun H => HR.out.next HAC.out H
    rw [hB]
    clear ha haw hB
    have HFA : Hid (∀ W, Hid (St w0 W (fun W => BoxC wr.heap.size [.int .i64 a.e, .int .i64 a.d, .slice a.o.a a.o.l.length a.o.c] W ∧ BoxC (w.heap.size + 1) [.int .i64 (K : Int)] W ∧ TabBox w.heap.size cs W ∧ F W)) → Hid (St w0 W F)) := Lib.hid fun W h => Lib.hid (h.out.weaken fun _ h => h.2.2.2)
    by_cases c1 : ¬ 1 ≤ a.e
    · obtain rfl := HNA.out (fun H => c1 H.1)
      have c1' : a.e < 1 := by omega
      clear c1
      go_wp2_with fail
      go_ret
      exact ⟨rfl, HFA.out _ HKa⟩
    have c1 := Classical.not_not.1 c1
    by_cases c2 : ¬ a.e ≤ 4
    · obtain rfl := HNA.out (fun H => c2 H.2.1)
      have c2' : 4 < a.e := by omega
      clear c2
      go_wp2_with fail
      go_ret
      exact ⟨rfl, HFA.out _ HKa⟩
    have c2 := Classical.not_not.1 c2
    by_cases c3 : ¬ 0 ≤ a.d
    · obtain rfl := HNA.out (fun H => c3 H.2.2.1)
      have c3' : a.d < 0 := by omega
      clear c3
      go_wp2_with fail
      go_ret
      exact ⟨rfl, HFA.out _ HKa⟩
    have c3 := Classical.not_not.1 c3
    by_cases c4 : (T.ns.length : Int) ≤ a.d
    · obtain rfl := HNA.out (fun H => by
        obtain ⟨n, hn, _⟩ := H.2.2.2.1
        have := (List.getElem?_eq_some_iff.1 hn).1
        rw [nodesL_len] at this
        have e : a.L.dest = a.d := rfl
        rw [e] at this
        omega)
      go_wp2_with fail
      go_ret
      exact ⟨rfl, HFA.out _ HKa⟩
    obtain ⟨j, hj⟩ := Int.eq_ofNat_of_zero_le c3
    have hjl : j < T.ns.length := by omega
    obtain ⟨qb, qo, q, hB2, hq, hqw, s0, s1, s2⟩ := (HT.out _ HK.out.now.2.2).nodes.at_ hjl
    rw [hA] at hB2
    injection hB2 with hB2
    injection hB2 with e1 e2
    subst e1; subst e2
    have HQN := Lib.hid hq
    have HJ := Lib.hid hj
    have e3 : a.L.dest.toNat = j := by show a.d.toNat = j; rw [hj, Int.toNat_natCast]
    have HE3 := Lib.hid e3
    have l3 := lt_of_cell s0
    have hjb : (j : Int) < (T.ns.length : Int) := by omega
    have hj0 : (0 : Int) ≤ (j : Int) := by omega
    clear hq hqw s1 s2 e3 c3 c4
    rw [hj] at r1
    rw [hj] at HKa HFA
    by_cases c5 : ¬ q.h = 0
    · obtain rfl := HNA.out (fun H => c5 (by
        obtain ⟨n, hn, h1⟩ := H.2.2.2.1
        rw [HE3.out, nodesL_at HQN.out] at hn; injection hn with hn; subst hn; exact h1))
      have c5' : (q.h != 0) = true := by rw [bne_iff_ne]; exact c5
      clear c5 hj
      go_wp2_with fail
      go_ret
      exact ⟨rfl, HFA.out _ HKa⟩
    have c5 := Classical.not_not.1 c5
    have c5' : (q.h != 0) = false := by rw [bne_eq_false_iff_eq]; exact c5
    by_cases c6 : ¬ a.o.l.length ≤ 64
    · obtain rfl := HNA.out (fun H => c6 (by have := H.2.2.2.2; rwa [show a.L.out.length = a.o.l.length from outL_len a.o] at this))
      have c6' : (64 : Int) < a.o.l.length := by omega
      clear c5 c6 hj
      go_wp2_with fail
      go_ret
      exact ⟨rfl, HFA.out _ HKa⟩
    have c6 := Classical.not_not.1 c6
    have HYA2 := Lib.hid (HYA.out ⟨c1, c2, by show 0 ≤ a.d; rw [hj]; exact hj0, ⟨q.L, by rw [HE3.out]; exact nodesL_at HQN.out, c5⟩, by rw [show a.L.out.length = a.o.l.length from outL_len a.o]; exact c6⟩)
    clear c5 hj
    go_wp2_with fail
    exact ⟨⟨m + 1, by omega, by go_num, HYA2, Lib.hid (HKa.out.weaken fun _ h => h.2)⟩, by simp [intOf]; omega⟩
  obtain rfl : m = T.acts.length := by omega
  have hd : decide (T.acts.length < T.acts.length) = false := by simp
  have HACTS := Lib.hid HR.out.all
  have q8 := HK.out.now.2.1.cell1 h258
  clear HR hm
  go_wp2_with fail
  clear hd
  go_loopw [106] (fun i wr => ∃ m : Nat, m ≤ T.es.length ∧ i = .int .i64 m ∧ Hid (EndsTo T.es m) ∧ Hid (St w0 wr (fun W => BoxC (w.heap.size + 1) [.int .i64 (K : Int)] W ∧ TabBox w.heap.size cs W ∧ F W))) (fun i _ => T.es.length - (intOf i).toNat)
  case atStart => exact ⟨0, Nat.zero_le _, rfl, Lib.hid (fun i hi => by simp at hi), HK⟩
  case round =>
  clear HK q8
  obtain ⟨m, hm, rfl, HR, HK⟩ := hrel
  by_cases hlt2 : m < T.es.length
  · obtain ⟨eb, eo, o, hB, ho, how, r0⟩ := (HT.out _ HK.out.now.2.2).ends.at_ hlt2
    have HO := Lib.hid ho
    rw [hB]
    clear ho how hB
    by_cases c6 : ¬ o.l.length ≤ 64
    · obtain rfl := HNO.out (fun H => c6 (by have := H.ends o.L (List.mem_map.2 ⟨o, List.mem_of_getElem? HO.out, rfl⟩); rwa [outL_len] at this))
      have c6' : (64 : Int) < o.l.length := by omega
      clear c6
      go_wp2_with fail
      go_ret
      exact ⟨rfl, HF.out _ HK⟩
    have c6 := Classical.not_not.1 c6
    have HY := Lib.hid (HR.out.next HO.out c6)
    go_wp2_with fail
    exact ⟨⟨m + 1, by omega, by go_num, HY, HK⟩, by simp [intOf]; omega⟩
  obtain rfl : m = T.es.length := by omega
  have hd : decide (T.es.length < T.es.length) = false := by simp
  have HENDS := Lib.hid HR.out.all
  have q6 := HK.out.now.2.1.cell1 h256
  clear HR hm
  have HV : Hid (pB (NodesOk T.L K) = v) := Lib.hid (by
    rw [← hv.out]
    refine pB_congr ⟨fun H => ⟨⟨by rw [nodesL_len]; exact hl1, by rw [actsL_len]; exact hl2, by rw [endsL_len]; exact hl3, n0.L, nodesL_at HN0.out, HA5.out, ?_, ?_⟩, by rw [HW.out]; exact HEN.out.2.2, HACTS.out, HENDS.out, by rw [HW.out]; exact H⟩, fun H => ?_⟩
    · show 1 ≤ n0.nx.length; rw [HKN.out]; exact HEN.out.1
    · show n0.nx.length ≤ 256; rw [HKN.out]; exact HEN.out.2.1
    · have := H.nodes; rwa [HW.out] at this)
  have hK256 : K ≤ 256 := HEN.out.2.1
  go_wp2_with fail
  have hcn := containsN_st HK cs T hC (fun _ h => HT.out _ h.2.2) w.heap.size (w.heap.size + 1) K (fun _ h => h.2.1) (fun _ h => h.1) v HV hl1 hl2 hl3 hK256
  rw [hA] at hcn
  refine hcn.mono ?_
  clear hcn
  rintro e w9 ⟨rfl, HK9⟩
  cases v
  all_goals
    go_wp2_with fail
    go_ret
    exact ⟨rfl, HF.out _ HK9⟩
end
end Go.Proofs.Yticfbbigljgjdaa
