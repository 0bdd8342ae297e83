/- Contract of umlautref17.Check. Condition: the table is known. -/
import Derived.Test.YticfbbigljgjdaaRTab
import Derived.Test.YticfbbigljgjdaaTabCheck2
import Derived.Deep.CutBlock
namespace Go.Proofs.Yticfbbigljgjdaa
open Go.RowKit
set_option linter.unusedVariables false
set_option linter.unusedSimpArgs false
/-- so far right, or it is known that it isn't -/
def SoFar (b v : Bool) (P : Prop) : Prop := (b = false ∧ v = false) ∨ (b = true ∧ P)
theorem SoFar.mono {b v : Bool} {P Q : Prop} (h : SoFar b v P) (hq : P → Q) : SoFar b v Q := h.imp id fun h => ⟨h.1, hq h.2⟩
theorem SoFar.no {b : Bool} {P : Prop} (h : b = false) : SoFar b false P := .inl ⟨h, rfl⟩
def ClsTo (T : TabL) (K k : Nat) : Prop := 1 ≤ K ∧ K ≤ 256 ∧ ∀ c ∈ T.cls.take k, c < (K : Int)
theorem rangeAt_box {b : Nat} {cs : Array Value} {W : World} (h : TabBox b cs W) : W.rangeAt b 0 cs.toList := fun j u hu => by
  rw [Nat.zero_add]
  exact h.cell1 (by simpa using hu)
section
variable {w0 w : World} {F : World → Prop}
set_option maxRecDepth 100000 in
set_option maxHeartbeats 64000000 in
theorem rCheck_st (hK : Hid (St w0 w F)) (cs : Array Value) (T : TabI) (hC : TabC cs T) (ht : ∀ W, F W → TabW T W) (v : Bool) (hv : Hid (pB (TabOk T.L) = v)) :
    Calls Try.prog 22 #[.agg cs] w (RetV w0 (.bool v) F) := by
  have HT := Lib.hid ht
  have h258 := hC.c3
  have h257 := hC.c2
  have h256 := hC.c1
  have HK := St.tbox hK cs
  have HRES : Hid (∀ W (G : World → Prop), Hid (St w0 W (fun W => G W ∧ F W)) → Hid (St w0 W F)) := Lib.hid fun W G h => Lib.hid (h.out.weaken fun _ h => h.2)
  have HNO : Hid (¬ TabOk T.L → v = false) := Lib.hid fun H => pB_f hv H
  clear ht
  have hln1 := (HT.out _ HK.out.now.2).nodes.ln
  have hln2 := (HT.out _ HK.out.now.2).acts.ln
  have hln3 := (HT.out _ HK.out.now.2).ends.ln
  by_cases a1 : T.ns.length = 0
  · obtain rfl := HNO.out (fun H => by
      obtain ⟨n, hn, _⟩ := H.head.2.2.2
      have := (List.getElem?_eq_some_iff.1 hn).1
      rw [nodesL_len] at this; omega)
    have a1' : ((T.ns.length : Int) == 0) = true := by rw [beq_iff_eq]; omega
    clear a1
    go_enter Try.func22, Try.ntmps22
    go_wp2_with fail
    go_ret
    exact ⟨rfl, HRES.out _ _ HK⟩
  have a1' : ((T.ns.length : Int) == 0) = false := by rw [beq_eq_false_iff_ne]; omega
  by_cases a2 : ¬ T.ns.length ≤ 4096
  · obtain rfl := HNO.out (fun H => a2 (by have := H.head.1; rwa [nodesL_len] at this))
    have a2' : (4096 : Int) < T.ns.length := by omega
    clear a1 a2
    go_enter Try.func22, Try.ntmps22
    go_wp2_with fail
    go_ret
    exact ⟨rfl, HRES.out _ _ HK⟩
  by_cases a3 : ¬ T.acts.length ≤ 4096
  · obtain rfl := HNO.out (fun H => a3 (by have := H.head.2.1; rwa [actsL_len] at this))
    have a3' : (4096 : Int) < T.acts.length := by omega
    clear a1 a2 a3
    go_enter Try.func22, Try.ntmps22
    go_wp2_with fail
    all_goals (go_ret; exact ⟨rfl, HRES.out _ _ HK⟩)
  by_cases a4 : ¬ T.es.length ≤ 4096
  · obtain rfl := HNO.out (fun H => a4 (by have := H.head.2.2.1; rwa [endsL_len] at this))
    have a4' : (4096 : Int) < T.es.length := by omega
    clear a1 a2 a3 a4
    go_enter Try.func22, Try.ntmps22
    go_wp2_with fail
    all_goals (go_ret; exact ⟨rfl, HRES.out _ _ HK⟩)
  have hl1 : T.ns.length ≤ 4096 := by omega
  have hl2 : T.acts.length ≤ 4096 := by omega
  have hl3 : T.es.length ≤ 4096 := by omega
  have hl0 : 0 < T.ns.length := by omega
  clear a1 a2 a3 a4 hln1 hln2 hln3
  obtain ⟨nb, no, n0, hA, hn0, hn0w, r0, r1, r2⟩ := (HT.out _ HK.out.now.2).nodes.at_ hl0
  have g256 := h256
  rw [hA] at g256
  have hln0 := hn0w.2.ln
  rw [Nat.zero_mul, Nat.add_zero] at r0 r1 r2
  have HN0 := Lib.hid hn0
  clear hn0 hn0w
  have hlz : nb < w.heap.size := by
    have hx := (HT.out _ hK.out.now).nodes.at_ hl0
    obtain ⟨nb', no', n0', hA', _, _, r0', _⟩ := hx
    rw [hA] at hA'; injection hA' with hA'; injection hA' with e1 e2; subst e1
    exact lt_of_cell r0'
  by_cases a5 : ¬ n0.h = 0
  · obtain rfl := HNO.out (fun H => a5 (by
      obtain ⟨n, hn, h1, _⟩ := H.head.2.2.2
      rw [nodesL_at HN0.out] at hn; injection hn with hn; subst hn; exact h1))
    have a5' : (n0.h != 0) = true := by rw [bne_iff_ne]; exact a5
    clear a5
    go_enter Try.func22, Try.ntmps22
    go_wp2_with fail
    go_ret
    exact ⟨rfl, HRES.out _ _ HK⟩
  have a5 := Classical.not_not.1 a5
  have a5' : (n0.h != 0) = false := by rw [bne_eq_false_iff_eq]; exact a5
  have HA5 := Lib.hid a5
  have HW : Hid (widthL T.L = n0.nx.length) := Lib.hid (widthL_at (nodesL_at HN0.out))
  clear a5
  obtain ⟨K, hKn⟩ : ∃ K, n0.nx.length = K := ⟨_, rfl⟩
  rw [hKn] at HW r1 hln0
  have HKN := Lib.hid hKn
  have HHK : Hid (v = true → 1 ≤ K ∧ K ≤ 256) := Lib.hid (fun H => by
    have H := pB_iff.1 (hv.out.trans H)
    obtain ⟨n, hn, _, h2, h3⟩ := H.head.2.2.2
    rw [nodesL_at HN0.out] at hn; injection hn with hn; subst hn
    have h2' : 1 ≤ n0.nx.length := h2
    have h3' : n0.nx.length ≤ 256 := h3
    rw [HKN.out] at h2' h3'; exact ⟨h2', h3'⟩)
  clear hKn
  go_enter Try.func22, Try.ntmps22
  go_upto_region 4 with fail
  go_cut [4] (fun s wr => ∃ b : Bool, s = .bool b ∧ Hid (SoFar b v (1 ≤ K ∧ K ≤ 256)) ∧ Hid (St w0 wr (fun W => TabBox w.heap.size cs W ∧ F W)))
  case first =>
    have HVF : Hid (¬ (1 ≤ K ∧ K ≤ 256) → v = false) := Lib.hid fun H => by
      cases v
      · rfl
      · exact absurd (HHK.out rfl) H
    by_cases b1 : ¬ (1 : Int) ≤ K
    · obtain rfl := HVF.out (by omega)
      have b1' : (K : Int) < 1 := by omega
      clear b1
      go_wp2_with fail
      go_meet
      exact ⟨false, rfl, Lib.hid (.inl ⟨rfl, rfl⟩), HK⟩
    have b1 := Classical.not_not.1 b1
    by_cases b2 : (256 : Int) < K
    · obtain rfl := HVF.out (by omega)
      have b2' : decide ((K : Int) ≤ 256) = false := decide_eq_false (by omega)
      go_wp2_with fail
      go_meet
      exact ⟨false, rfl, Lib.hid (.inl ⟨rfl, rfl⟩), HK⟩
    have b2' : decide ((K : Int) ≤ 256) = true := decide_eq_true (by omega)
    have HH : Hid (1 ≤ K ∧ K ≤ 256) := Lib.hid ⟨by omega, by omega⟩
    go_wp2_with fail
    go_meet
    exact ⟨true, rfl, Lib.hid (.inr ⟨rfl, HH.out⟩), HK⟩
  case rest =>
  clear HK r0 r1 r2 HHK
  obtain ⟨b, rfl, hb, HK⟩ := hcut
  go_upto_block 0 with fail
  go_cut [4] (fun s wr => ∃ b : Bool, s = .bool b ∧ Hid (SoFar b v (HeadK T.L K)) ∧ Hid (St w0 wr (fun W => TabBox w.heap.size cs W ∧ F W)))
  case first =>
    go_wp2_with fail
    go_loopw [4, 5] (fun s i wr => ∃ (b : Bool) (k : Nat), k ≤ 256 ∧ i = .int .i64 k ∧ s = .bool b ∧ Hid (SoFar b v (ClsTo T.L K k)) ∧ Hid (St w0 wr (fun W => TabBox w.heap.size cs W ∧ F W))) (fun _ i _ => 256 - (intOf i).toNat)
    case atStart => exact ⟨b, 0, by omega, rfl, rfl, Lib.hid (hb.out.mono fun h => ⟨h.1, h.2, fun c hc => by simp at hc⟩), HK⟩
    case round =>
    clear HK hb
    obtain ⟨b, k, hk, rfl, rfl, hb, HK⟩ := hrel
    rcases hb.out with ⟨rfl, rfl⟩ | ⟨rfl, hok⟩
    · clear hb
      by_cases hlt : k < 256
      · go_wp2_with fail
        go_meet
        exact ⟨false, rfl, Lib.hid (.inl ⟨rfl, rfl⟩), HK⟩
      · obtain rfl : k = 256 := by omega
        go_wp2_with fail
        go_meet
        exact ⟨false, rfl, Lib.hid (.inl ⟨rfl, rfl⟩), HK⟩
    have HOK := Lib.hid hok
    clear hb hok
    by_cases hlt : k < 256
    · obtain ⟨c, hc⟩ : ∃ c, T.cls[k]? = some c := ⟨_, List.getElem?_eq_getElem (by rw [hC.ln]; exact hlt)⟩
      have hcc := HK.out.now.1.cell1 (hC.cl k c hc)
      obtain ⟨hc0, hc1⟩ := hC.u8 c (List.mem_of_getElem? hc)
      have HCK := Lib.hid hc
      have hk' : (k : Int) < 256 := by omega
      have hk0 : (0 : Int) ≤ (k : Int) := by omega
      clear hc
      by_cases h1 : c < (K : Int)
      · have h1' : decide (c < (K : Int)) = true := decide_eq_true h1
        have HN : Hid (ClsTo T.L K (k + 1)) := Lib.hid ⟨HOK.out.1, HOK.out.2.1, fun d hd => by
          have hd' : d ∈ T.cls.take (k + 1) := hd
          rw [take_snoc? HCK.out] at hd'
          rcases List.mem_append.1 hd' with hd' | hd'
          · exact HOK.out.2.2 d hd'
          · simp at hd'; subst hd'; exact h1⟩
        clear h1
        go_wp2_with fail
        exact ⟨⟨true, k + 1, by omega, by go_num, rfl, Lib.hid (.inr ⟨rfl, HN.out⟩), HK⟩, by simp [intOf]; omega⟩
      · have h1' : decide (c < (K : Int)) = false := decide_eq_false h1
        obtain rfl := HNO.out (fun H => h1 (by
          have := H.cls c (List.mem_of_getElem? HCK.out)
          rwa [HW.out] at this))
        clear h1
        go_wp2_with fail
        exact ⟨⟨false, k + 1, by omega, by go_num, rfl, Lib.hid (.inl ⟨rfl, rfl⟩), HK⟩, by simp [intOf]; omega⟩
    · obtain rfl : k = 256 := by omega
      have HN : Hid (HeadK T.L K) := Lib.hid ⟨HOK.out.1, HOK.out.2.1, by
        have h := HOK.out.2.2
        rw [show (256 : Nat) = T.L.cls.length from hC.ln.symm, List.take_length] at h; exact h⟩
      go_wp2_with fail
      go_meet
      exact ⟨true, rfl, Lib.hid (.inr ⟨rfl, HN.out⟩), HK⟩
  case rest =>
  clear HK hb
  obtain ⟨b, rfl, hb, HK⟩ := hcut
  go_upto_block 2 with fail
  go_cut [4] (fun s wr => ∃ b : Bool, s = .bool b ∧ Hid (SoFar b v (HeadK T.L K ∧ ∀ a ∈ T.L.acts, ActOk T.L a)) ∧ Hid (St w0 wr (fun W => TabBox w.heap.size cs W ∧ F W)))
  case first =>
    go_wp2_with fail
    go_loopw [4, 6] (fun s i wr => ∃ (b : Bool) (k : Nat), k ≤ T.acts.length ∧ i = .int .i64 k ∧ s = .bool b ∧ Hid (SoFar b v (HeadK T.L K ∧ ActsTo T.L T.acts k)) ∧ Hid (St w0 wr (fun W => TabBox w.heap.size cs W ∧ F W))) (fun _ i _ => T.acts.length - (intOf i).toNat)
    case atStart => exact ⟨b, 0, by omega, rfl, rfl, Lib.hid (hb.out.mono fun h => ⟨h, fun c hc => by simp at hc⟩), HK⟩
    case round =>
    clear HK hb
    obtain ⟨b, m, hm, rfl, rfl, hb, HK⟩ := hrel
    have p7 := HK.out.now.1.cell1 h257
    have p6 := HK.out.now.1.cell1 g256
    by_cases hlt : m < T.acts.length
    case neg =>
      obtain rfl : m = T.acts.length := by omega
      have hd : decide (T.acts.length < T.acts.length) = false := by simp
      have HB2 : Hid (SoFar b v (HeadK T.L K ∧ ∀ a ∈ T.L.acts, ActOk T.L a)) := Lib.hid (hb.out.mono fun h => ⟨h.1, h.2.all⟩)
      clear hb
      go_wp2_with fail
      go_meet
      exact ⟨b, rfl, HB2, HK⟩
    rcases hb.out with ⟨rfl, rfl⟩ | ⟨rfl, hok⟩
    · clear hb
      go_wp2_with fail
      go_meet
      exact ⟨false, rfl, Lib.hid (.inl ⟨rfl, rfl⟩), HK⟩
    have HOK := Lib.hid hok
    clear hb hok
    obtain ⟨ab, ao, a, hB, ha, haw, r0, r1, r2⟩ := (HT.out _ HK.out.now.2).acts.at_ hlt
    have HAC := Lib.hid ha
    have l1 := lt_of_cell r0
    have l2 := lt_of_cell p6
    have HKa := St.box HK [.int .i64 a.e, .int .i64 a.d, .slice a.o.a a.o.l.length a.o.c] 51
    have HNA : Hid (¬ ActOk T.L a.L → v = false) := Lib.hid fun H => HNO.out (fun H2 => H (H2.acts _ (List.mem_map.2 ⟨a, List.mem_of_getElem? HAC.out, rfl⟩)))
    have HYA : Hid (ActOk T.L a.L → ActsTo T.L T.acts (m + 1)) := Lib.hid fun H => HOK.out.2.next HAC.out H
    have HFA : Hid (∀ W, Hid (St w0 W (fun W => BoxC wr.heap.size [.int .i64 a.e, .int .i64 a.d, .slice a.o.a a.o.l.length a.o.c] W ∧ TabBox w.heap.size cs W ∧ F W)) → Hid (St w0 W (fun W => TabBox w.heap.size cs W ∧ F W))) := Lib.hid fun W h => Lib.hid (h.out.weaken fun _ h => h.2)
    rw [hB] at p7
    clear ha haw hB
    by_cases c1 : ¬ 1 ≤ a.e
    · obtain rfl := HNA.out (fun H => c1 H.1)
      have c1' : a.e < 1 := by omega
      clear c1
      go_wp2_with fail
      exact ⟨⟨false, m + 1, by omega, by go_num, rfl, Lib.hid (.inl ⟨rfl, rfl⟩), HFA.out _ HKa⟩, by simp [intOf]; omega⟩
    have c1 := Classical.not_not.1 c1
    by_cases c2 : ¬ a.e ≤ 4
    · obtain rfl := HNA.out (fun H => c2 H.2.1)
      have c2' : 4 < a.e := by omega
      have c2a : decide (a.e ≤ 4) = false := decide_eq_false c2
      clear c2
      go_wp2_with fail
      exact ⟨⟨false, m + 1, by omega, by go_num, rfl, Lib.hid (.inl ⟨rfl, rfl⟩), HFA.out _ HKa⟩, by simp [intOf]; omega⟩
    have c2 := Classical.not_not.1 c2
    by_cases c3 : ¬ 0 ≤ a.d
    · obtain rfl := HNA.out (fun H => c3 H.2.2.1)
      have c3' : a.d < 0 := by omega
      have c3a : decide (0 ≤ a.d) = false := decide_eq_false c3
      clear c3
      go_wp2_with fail
      exact ⟨⟨false, m + 1, by omega, by go_num, rfl, Lib.hid (.inl ⟨rfl, rfl⟩), HFA.out _ HKa⟩, by simp [intOf]; omega⟩
    have c3 := Classical.not_not.1 c3
    by_cases c4 : (T.ns.length : Int) ≤ a.d
    · obtain rfl := HNA.out (fun H => by
        obtain ⟨n, hn, _⟩ := H.2.2.2.1
        have := (List.getElem?_eq_some_iff.1 hn).1
        rw [nodesL_len] at this
        have e : a.L.dest = a.d := rfl
        rw [e] at this
        omega)
      have c4a : decide (a.d < (T.ns.length : Int)) = false := decide_eq_false (by omega)
      go_wp2_with fail
      exact ⟨⟨false, m + 1, by omega, by go_num, rfl, Lib.hid (.inl ⟨rfl, rfl⟩), HFA.out _ HKa⟩, by simp [intOf]; omega⟩
    have c4 : a.d < (T.ns.length : Int) := by omega
    have c4a : decide (a.d < (T.ns.length : Int)) = true := decide_eq_true c4
    by_cases c6 : ¬ a.o.l.length ≤ 64
    · obtain rfl := HNA.out (fun H => c6 (by have := H.2.2.2.2; rwa [show a.L.out.length = a.o.l.length from outL_len a.o] at this))
      have c6' : (64 : Int) < a.o.l.length := by omega
      have c6a : decide ((a.o.l.length : Int) ≤ 64) = false := decide_eq_false (by omega)
      clear c6
      go_wp2_with fail
      exact ⟨⟨false, m + 1, by omega, by go_num, rfl, Lib.hid (.inl ⟨rfl, rfl⟩), HFA.out _ HKa⟩, by simp [intOf]; omega⟩
    have c6 := Classical.not_not.1 c6
    have c6a : decide ((a.o.l.length : Int) ≤ 64) = true := decide_eq_true (by omega)
    obtain ⟨j, hj⟩ := Int.eq_ofNat_of_zero_le c3
    have hjl : j < T.ns.length := by omega
    obtain ⟨qb, qo, q, hB2, hq, hqw, s0, s1, s2⟩ := (HT.out _ HK.out.now.2).nodes.at_ hjl
    rw [hA] at hB2
    injection hB2 with hB2
    injection hB2 with e1 e2
    subst e1; subst e2
    have HQN := Lib.hid hq
    have e3 : a.L.dest.toNat = j := by show a.d.toNat = j; rw [hj, Int.toNat_natCast]
    have HE3 := Lib.hid e3
    have l3 := lt_of_cell s0
    have hjb : (j : Int) < (T.ns.length : Int) := by omega
    have hj0 : (0 : Int) ≤ (j : Int) := by omega
    have c4b : decide ((j : Int) < (T.ns.length : Int)) = true := decide_eq_true hjb
    have c4c : decide (j < T.ns.length) = true := decide_eq_true hjl
    clear hq hqw s1 s2 e3 c3 c4 c4a
    rw [hj] at r1
    rw [hj] at HKa HFA
    by_cases c5 : ¬ q.h = 0
    · obtain rfl := HNA.out (fun H => c5 (by
        obtain ⟨n, hn, h1⟩ := H.2.2.2.1
        rw [HE3.out, nodesL_at HQN.out] at hn; injection hn with hn; subst hn; exact h1))
      have c5' : (q.h == 0) = false := by rw [beq_eq_false_iff_ne]; exact c5
      clear c5 hj
      go_wp2_with fail
      exact ⟨⟨false, m + 1, by omega, by go_num, rfl, Lib.hid (.inl ⟨rfl, rfl⟩), HFA.out _ HKa⟩, by simp [intOf]; omega⟩
    have c5 := Classical.not_not.1 c5
    have c5' : (q.h == 0) = true := by rw [beq_iff_eq]; exact c5
    have HYA2 := Lib.hid (HYA.out ⟨c1, c2, by show 0 ≤ a.d; rw [hj]; exact hj0, ⟨q.L, by rw [HE3.out]; exact nodesL_at HQN.out, c5⟩, by rw [show a.L.out.length = a.o.l.length from outL_len a.o]; exact c6⟩)
    clear c5 hj
    go_wp2_with fail
    exact ⟨⟨true, m + 1, by omega, by go_num, rfl, Lib.hid (.inr ⟨rfl, HOK.out.1, HYA2.out⟩), HFA.out _ HKa⟩, by simp [intOf]; omega⟩
  case rest =>
  clear HK hb
  obtain ⟨b, rfl, hb, HK⟩ := hcut
  go_upto_block 4 with fail
  go_cut [4] (fun s wr => ∃ b : Bool, s = .bool b ∧ Hid (SoFar b v ((HeadK T.L K ∧ ∀ a ∈ T.L.acts, ActOk T.L a) ∧ ∀ l ∈ T.L.ends, l.length ≤ 64)) ∧ Hid (St w0 wr (fun W => TabBox w.heap.size cs W ∧ F W)))
  case first =>
    go_wp2_with fail
    go_loopw [4, 8] (fun s i wr => ∃ (b : Bool) (k : Nat), k ≤ T.es.length ∧ i = .int .i64 k ∧ s = .bool b ∧ Hid (SoFar b v ((HeadK T.L K ∧ ∀ a ∈ T.L.acts, ActOk T.L a) ∧ EndsTo T.es k)) ∧ Hid (St w0 wr (fun W => TabBox w.heap.size cs W ∧ F W))) (fun _ i _ => T.es.length - (intOf i).toNat)
    case atStart => exact ⟨b, 0, by omega, rfl, rfl, Lib.hid (hb.out.mono fun h => ⟨h, fun c hc => by simp at hc⟩), HK⟩
    case round =>
    clear HK hb
    obtain ⟨b, m, hm, rfl, rfl, hb, HK⟩ := hrel
    have p8 := HK.out.now.1.cell1 h258
    by_cases hlt : m < T.es.length
    case neg =>
      obtain rfl : m = T.es.length := by omega
      have hd : decide (T.es.length < T.es.length) = false := by simp
      have HB2 : Hid (SoFar b v ((HeadK T.L K ∧ ∀ a ∈ T.L.acts, ActOk T.L a) ∧ ∀ l ∈ T.L.ends, l.length ≤ 64)) := Lib.hid (hb.out.mono fun h => ⟨h.1, h.2.all⟩)
      clear hb
      go_wp2_with fail
      go_meet
      exact ⟨b, rfl, HB2, HK⟩
    rcases hb.out with ⟨rfl, rfl⟩ | ⟨rfl, hok⟩
    · clear hb
      go_wp2_with fail
      go_meet
      exact ⟨false, rfl, Lib.hid (.inl ⟨rfl, rfl⟩), HK⟩
    have HOK := Lib.hid hok
    clear hb hok
    obtain ⟨eb, eo, o, hB, ho, how, r0⟩ := (HT.out _ HK.out.now.2).ends.at_ hlt
    have HO := Lib.hid ho
    rw [hB] at p8
    clear ho how hB
    by_cases c6 : ¬ o.l.length ≤ 64
    · obtain rfl := HNO.out (fun H => c6 (by have := H.ends o.L (List.mem_map.2 ⟨o, List.mem_of_getElem? HO.out, rfl⟩); rwa [outL_len] at this))
      have c6a : decide ((o.l.length : Int) ≤ 64) = false := decide_eq_false (by omega)
      clear c6
      go_wp2_with fail
      exact ⟨⟨false, m + 1, by omega, by go_num, rfl, Lib.hid (.inl ⟨rfl, rfl⟩), HK⟩, by simp [intOf]; omega⟩
    have c6 := Classical.not_not.1 c6
    have c6a : decide ((o.l.length : Int) ≤ 64) = true := decide_eq_true (by omega)
    have HY := Lib.hid (HOK.out.2.next HO.out c6)
    clear c6
    go_wp2_with fail
    exact ⟨⟨true, m + 1, by omega, by go_num, rfl, Lib.hid (.inr ⟨rfl, HOK.out.1, HY.out⟩), HK⟩, by simp [intOf]; omega⟩
  case rest =>
  clear HK hb
  obtain ⟨b, rfl, hb, HK⟩ := hcut
  go_wp2_with fail
  go_loopw [4, 9] (fun s i wr => ∃ (b : Bool) (k : Nat), k ≤ T.ns.length ∧ i = .int .i64 k ∧ s = .bool b ∧ Hid (SoFar b v (((HeadK T.L K ∧ ∀ a ∈ T.L.acts, ActOk T.L a) ∧ ∀ l ∈ T.L.ends, l.length ≤ 64) ∧ NodesTo T.L K T.ns k)) ∧ Hid (St w0 wr (fun W => TabBox w.heap.size cs W ∧ F W))) (fun _ i _ => T.ns.length - (intOf i).toNat)
  case atStart => exact ⟨b, 0, by omega, rfl, rfl, Lib.hid (hb.out.mono fun h => ⟨h, fun c hc => by simp at hc⟩), HK⟩
  case round =>
  clear HK hb
  obtain ⟨b, m, hm, rfl, rfl, hb, HK⟩ := hrel
  have p6 := HK.out.now.1.cell1 g256
  by_cases hlt : m < T.ns.length
  case neg =>
    obtain rfl : m = T.ns.length := by omega
    have hd : decide (T.ns.length < T.ns.length) = false := by simp
    have HB2 : Hid (b = v) := Lib.hid (by
      rcases hb.out with ⟨h1, h2⟩ | ⟨h1, h2⟩
      · rw [h1, h2]
      · rw [h1]
        symm
        refine pB_t hv ⟨⟨by rw [nodesL_len]; exact hl1, by rw [actsL_len]; exact hl2, by rw [endsL_len]; exact hl3, n0.L, nodesL_at HN0.out, HA5.out, ?_, ?_⟩, ?_, h2.1.1.2, h2.1.2, ?_⟩
        · show 1 ≤ n0.nx.length; rw [HKN.out]; exact h2.1.1.1.1
        · show n0.nx.length ≤ 256; rw [HKN.out]; exact h2.1.1.1.2.1
        · rw [HW.out]; exact h2.1.1.1.2.2
        · rw [HW.out]; exact h2.2.all)
    clear hb
    cases b
    · obtain rfl := HB2.out
      go_wp2_with fail
      go_ret
      exact ⟨rfl, HRES.out _ _ HK⟩
    · obtain rfl := HB2.out
      go_wp2_with fail
      go_ret
      exact ⟨rfl, HRES.out _ _ HK⟩
  rcases hb.out with ⟨rfl, rfl⟩ | ⟨rfl, hok⟩
  · clear hb
    go_wp2_with fail
    go_ret
    exact ⟨rfl, HRES.out _ _ HK⟩
  have HOK := Lib.hid hok
  clear hb hok
  obtain ⟨pb, off, ⟨hd0, na, nc, nx, e⟩, hB, hx, hnw, r0, r1, r2⟩ := (HT.out _ HK.out.now.2).nodes.at_ hlt
  rw [hA] at hB
  injection hB with hB
  injection hB with e1 e2
  subst e1; subst e2
  have HX := Lib.hid hx
  simp only at r0 r1 r2
  have hnln := hnw.2.ln
  have HKn := St.box (Lib.hid (HK.out.add (Below.refl _ _) (G := IntsAt na nx) (fun W hW => hnw.2.below hW))) [.int .i64 hd0, .slice na nx.length nc, .int .i64 e] 47
  have HNN : Hid (¬ NodeOk T.L K ⟨hd0, nx, e⟩ → v = false) := Lib.hid fun H => HNO.out (fun H2 => H (by
    have := H2.nodes _ (List.mem_map.2 ⟨_, List.mem_of_getElem? HX.out, rfl⟩)
    rwa [HW.out] at this))
  have HYN : Hid (NodeOk T.L K ⟨hd0, nx, e⟩ → NodesTo T.L K T.ns (m + 1)) := Lib.hid fun H => HOK.out.2.next HX.out H
  have HFN : Hid (∀ W, Hid (St w0 W (fun W => BoxC wr.heap.size [.int .i64 hd0, .slice na nx.length nc, .int .i64 e] W ∧ IntsAt na nx W ∧ TabBox w.heap.size cs W ∧ F W)) → Hid (St w0 W (fun W => TabBox w.heap.size cs W ∧ F W))) := Lib.hid fun W h => Lib.hid (h.out.weaken fun _ h => h.2.2)
  have l1 := lt_of_cell r0
  have p8 := HK.out.now.1.cell1 h258
  have l2 := lt_of_cell p8
  clear hx hnw
  by_cases b1 : ¬ 0 ≤ hd0
  · obtain rfl := HNN.out (fun H => b1 H.1.1)
    have b1' : hd0 < 0 := by omega
    clear b1
    go_wp2_with fail
    go_ret
    exact ⟨rfl, HRES.out _ _ (HFN.out _ HKn)⟩
  have b1 := Classical.not_not.1 b1
  by_cases b2 : ¬ hd0 ≤ 4
  · obtain rfl := HNN.out (fun H => b2 H.1.2.1)
    have b2' : 4 < hd0 := by omega
    clear b2
    go_wp2_with fail
    go_ret
    exact ⟨rfl, HRES.out _ _ (HFN.out _ HKn)⟩
  have b2 := Classical.not_not.1 b2
  by_cases b3 : ¬ nx.length = K
  · obtain rfl := HNN.out (fun H => b3 H.1.2.2.1)
    have b3' : ((nx.length : Int) != (K : Int)) = true := by rw [bne_iff_ne]; omega
    clear b3
    go_wp2_with fail
    go_ret
    exact ⟨rfl, HRES.out _ _ (HFN.out _ HKn)⟩
  have b3 := Classical.not_not.1 b3
  have b3' : ((nx.length : Int) != (K : Int)) = false := by rw [bne_eq_false_iff_eq, b3]
  have HB3 := Lib.hid b3
  have hnK : (nx.length : Int) = K := by omega
  by_cases b4 : ¬ -1 ≤ e
  · obtain rfl := HNN.out (fun H => b4 H.1.2.2.2.1)
    have b4' : e < -1 := by omega
    clear b4 b3 hnK
    go_wp2_with fail
    go_ret
    exact ⟨rfl, HRES.out _ _ (HFN.out _ HKn)⟩
  have b4 := Classical.not_not.1 b4
  by_cases b5 : ¬ e < (T.es.length : Int)
  · obtain rfl := HNN.out (fun H => b5 (by have := H.1.2.2.2.2; rw [endsL_len] at this; exact this))
    have b5' : (T.es.length : Int) ≤ e := by omega
    clear b5 b3 hnK
    go_wp2_with fail
    go_ret
    exact ⟨rfl, HRES.out _ _ (HFN.out _ HKn)⟩
  have b5 := Classical.not_not.1 b5
  have HHD : Hid (NodeHead T.L K ⟨hd0, nx, e⟩) := Lib.hid ⟨b1, b2, b3, b4, by rw [endsL_len]; exact b5⟩
  have hKl : K ≤ 256 := HOK.out.1.1.1.2.1
  clear b3 hnK
  go_wp2_with fail
  go_cut [4] (fun s wr' => ∃ b : Bool, s = .bool b ∧ Hid (SoFar b v (EndOk T.L hd0 e)) ∧ Hid (St w0 wr' (fun W => BoxC wr.heap.size [.int .i64 hd0, .slice na nx.length nc, .int .i64 e] W ∧ IntsAt na nx W ∧ TabBox w.heap.size cs W ∧ F W)))
  case first =>
    by_cases b6 : e = -1
    · have b6a : (e == -1) = true := by rw [beq_iff_eq]; exact b6
      have HEN : Hid (EndOk T.L hd0 e) := Lib.hid (fun h => by omega)
      clear b6 b4 b5
      go_quiet (fail)
      go_wp2_with fail
      go_meet
      exact ⟨true, rfl, Lib.hid (.inr ⟨rfl, HEN.out⟩), St.hdrewN HKn nq⟩
    · have b6a : (e == -1) = false := by rw [beq_eq_false_iff_ne]; exact b6
      have b60 : 0 ≤ e := by omega
      obtain ⟨j, rfl⟩ := Int.eq_ofNat_of_zero_le b60
      have b5' : j < T.es.length := by omega
      obtain ⟨eb, eo, o, hA2, ho, how, hec⟩ := (HT.out _ HKn.out.now.2.2.2).ends.at_ b5'
      have g258 := h258
      rw [hA2] at g258
      have HO := Lib.hid ho
      have HK := Lib.hid (HKn.out.add (Below.refl _ _) (G := fun W => W.cell? ⟨eb, eo + j, none⟩ = some (.slice o.a o.l.length o.c) ∧ OutW o W) (fun W hW => ⟨(hW.cell (p := ⟨eb, eo + j, none⟩) (lt_of_cell hec)).trans hec, OutW.stays _ _ _ how hW⟩))
      have HK := St.hdrewN HK 1
      clear ho how
      obtain ⟨z, hz, hzv⟩ : ∃ z : Bool, pB (TermsOk hd0 (o.l.map TermI.L)) = z ∧ Hid (SoFar z v (EndOk T.L hd0 (j : Int))) := by
        by_cases a2 : TermsOk hd0 (o.l.map TermI.L)
        · exact ⟨true, pB_true a2, Lib.hid (.inr ⟨rfl, fun _ => ⟨_, endsL_at HO.out, a2⟩⟩)⟩
        · refine ⟨false, pB_false a2, Lib.hid (.inl ⟨rfl, HNN.out fun H => a2 ?_⟩)⟩
          obtain ⟨l, h1, h2⟩ := H.2.1 b60
          have h3 := endsL_at HO.out
          have h1' : T.L.ends[j]? = some l := h1
          rw [h1'] at h3; injection h3 with h3; subst h3; exact h2
      have H2 := Lib.hid hz
      clear hz b5 b6 b4
      go_region_held3 (fun W => W.cell? ⟨wr.heap.size, 2, none⟩ = some (.int .i64 j) ∧ W.cell? ⟨wr.heap.size, 0, none⟩ = some (.int .i64 hd0) ∧ W.cell? ⟨w.heap.size, 258, none⟩ = some (.slice (some ⟨eb, eo, none⟩) T.es.length T.ec) ∧ W.cell? ⟨eb, eo + j, none⟩ = some (.slice o.a o.l.length o.c))
        (first | exact ⟨HK.out.now.2.1 2 _ rfl, HK.out.now.2.1 0 _ rfl, HK.out.now.2.2.2.1.cell1 g258, HK.out.now.1.1⟩ | go_keep)
        ((go_at_call 33; refine (rterms_st HK (fun _ h => h.1.2) o.c hd0 z H2).mono ?_; rintro e5 w5 ⟨rfl, HK⟩))
      go_wp2_with fail
      go_meet
      exact ⟨z, rfl, hzv, Lib.hid (HK.out.weaken fun _ h => h.2)⟩
  case rest =>
  clear HKn r0 r1 r2 p8 p6 HK
  obtain ⟨b, rfl, hb, HK⟩ := hcut
  obtain ⟨bb, hbb⟩ : ∃ bb, wr.heap.size = bb := ⟨_, rfl⟩
  rw [hbb] at HK HFN ⊢
  clear hbb l1 l2 b4 b5
  go_wp2_with fail
  go_loopw [4, 11] (fun s i wq => ∃ (b : Bool) (k : Nat), k ≤ K ∧ i = .int .i64 k ∧ s = .bool b ∧ Hid (SoFar b v (EndOk T.L hd0 e ∧ NextsTo T.L hd0 nx k)) ∧ Hid (St w0 wq (fun W => BoxC bb [.int .i64 hd0, .slice na nx.length nc, .int .i64 e] W ∧ IntsAt na nx W ∧ TabBox w.heap.size cs W ∧ F W))) (fun _ i _ => K - (intOf i).toNat)
  case atStart => exact ⟨b, 0, by omega, rfl, rfl, Lib.hid (hb.out.mono fun h => ⟨h, fun c hc => by simp at hc⟩), HK⟩
  case round =>
  clear HK hb
  obtain ⟨b, k, hk, rfl, rfl, hb, HK⟩ := hrel
  by_cases hlt2 : k < K
  case neg =>
    obtain rfl : k = K := by omega
    have hd : decide (k < k) = false := by simp
    have HSF : Hid (SoFar b v (((HeadK T.L k ∧ ∀ a ∈ T.L.acts, ActOk T.L a) ∧ ∀ l ∈ T.L.ends, l.length ≤ 64) ∧ NodesTo T.L k T.ns (m + 1))) := Lib.hid (hb.out.mono fun h => ⟨HOK.out.1, HYN.out ⟨HHD.out, h.1, by
      have h2 := h.2
      rw [← HB3.out] at h2
      exact h2.all⟩⟩)
    clear hb
    go_wp2_with fail
    exact ⟨⟨b, m + 1, by omega, by go_num, rfl, HSF, HFN.out _ HK⟩, by simp [intOf]; omega⟩
  rcases hb.out with ⟨rfl, rfl⟩ | ⟨rfl, hok2⟩
  · clear hb
    go_wp2_with fail
    exact ⟨⟨false, m + 1, by omega, by go_num, rfl, Lib.hid (.inl ⟨rfl, rfl⟩), HFN.out _ HK⟩, by simp [intOf]; omega⟩
  have HOK2 := Lib.hid hok2
  clear hb hok2
  have hkn : k < nx.length := by have := HB3.out; omega
  obtain ⟨xb, xo, x, hXA, hxk, hx64, hxc⟩ := HK.out.now.2.1.at_ hkn
  have HXK := Lib.hid hxk
  have HX64 := Lib.hid hx64
  obtain ⟨z, hz, hzv⟩ : ∃ z : Bool, pB (NextOk T.L hd0 x) = z ∧ Hid (SoFar z v (EndOk T.L hd0 e ∧ NextsTo T.L hd0 nx (k + 1))) := by
    by_cases a2 : NextOk T.L hd0 x
    · exact ⟨true, pB_true a2, Lib.hid (.inr ⟨rfl, HOK2.out.1, HOK2.out.2.next HXK.out a2⟩)⟩
    · exact ⟨false, pB_false a2, Lib.hid (.inl ⟨rfl, HNN.out fun H => a2 (H.2.2 x (List.mem_of_getElem? HXK.out))⟩)⟩
  have H2 := Lib.hid hz
  have hki : (k : Int) < (nx.length : Int) := by omega
  have hk0 : (0 : Int) ≤ (k : Int) := by omega
  have hu := Try.underlying27
  have hin : (Try.prog.info? 27).map (·.size) = some cs.toList.length := by rw [Array.length_toList, hC.size]; kernel_rfl
  have hsub : Hid (na = some ⟨xb, xo, none⟩) := Lib.hid hXA
  have HKx := Lib.hid (HK.out.add (Below.refl _ _) (G := fun W => W.cell? ⟨xb, xo + k, none⟩ = some (.int .i64 x)) (fun W hW => (hW.cell (p := ⟨xb, xo + k, none⟩) (lt_of_cell hxc)).trans hxc))
  have HK := St.hdrewN HKx 1
  clear hz hxk hx64 hXA HKx
  go_wp2_with fail
  have hca : cs.toList.toArray = cs := Array.toArray_toList
  refine wp_region_held_drew (by kernel_rfl) (S := fun W => W.rangeAt w.heap.size 0 cs.toList ∧ W.cell? ⟨bb, 0, none⟩ = some (.int .i64 hd0) ∧ W.cell? ⟨bb, 1, none⟩ = some (.slice (some ⟨xb, xo, none⟩) nx.length nc) ∧ W.cell? ⟨bb, 2, none⟩ = some (.int .i64 e) ∧ W.cell? ⟨xb, xo + k, none⟩ = some (.int .i64 x))
    ⟨rangeAt_box HK.out.now.2.2.2.1, HK.out.now.2.1 0 _ rfl, (HK.out.now.2.1 1 _ rfl).trans (by rw [hsub.out]), HK.out.now.2.1 2 _ rfl, HK.out.now.1⟩ (fun hHeld => ?_)
  refine wpAnyH_take (i := 0) (v := .agg cs.toList.toArray) rfl (by kernel_rfl) (by kernel_rfl) (by kernel_rfl) (fun _ _ _ h => h) (yieldsIf_load_mid (by rfl) _ _ rfl _ _ rfl cs.toList _ (fun w hw => hw.1) hu rfl hin) (by assumption) ?_
  rw [hca]
  (try simp only [Act.put, List.setIfInBounds_toArray, List.set_cons_zero, List.set_cons_succ])
  refine wpAnyH_take (i := 1) (v := ?_) rfl (by kernel_rfl) (by kernel_rfl) (by kernel_rfl) (fun _ _ _ h => h) (Or.inl ⟨by rfl, ?_⟩) (by assumption) ?_
  rotate_left
  · intro w hSw; (try dsimp only at hSw); go_simp; (try with_reducible rfl)
  (try simp only [Act.put, List.setIfInBounds_toArray, List.set_cons_zero, List.set_cons_succ])
  refine wpAnyH_take (i := 2) (v := ?_) rfl (by kernel_rfl) (by kernel_rfl) (by kernel_rfl) (fun _ _ _ h => h) (Or.inl ⟨by rfl, ?_⟩) (by assumption) ?_
  rotate_left
  · intro w hSw; (try dsimp only at hSw); go_simp; (try with_reducible rfl)
  (try simp only [Act.put, List.setIfInBounds_toArray, List.set_cons_zero, List.set_cons_succ])
  refine wpAnyH_take (i := 3) (v := ?_) rfl (by kernel_rfl) (by kernel_rfl) (by kernel_rfl) (fun _ _ _ h => h) (Or.inl ⟨by rfl, ?_⟩) (by assumption) ?_
  rotate_left
  · intro w hSw; (try dsimp only at hSw); go_simp; (try with_reducible rfl)
  (try simp only [Act.put, List.setIfInBounds_toArray, List.set_cons_zero, List.set_cons_succ])
  refine wpAnyH_take (i := 4) (v := ?_) rfl (by kernel_rfl) (by kernel_rfl) (by kernel_rfl) (fun _ _ _ h => h) (Or.inl ⟨by rfl, ?_⟩) (by assumption) ?_
  rotate_left
  · intro w hSw; (try dsimp only at hSw); go_simp; (try with_reducible rfl)
  (try simp only [Act.put, List.setIfInBounds_toArray, List.set_cons_zero, List.set_cons_succ])
  refine wpAnyH_take (i := 5) (v := ?_) rfl (by kernel_rfl) (by kernel_rfl) (by kernel_rfl) (fun _ _ _ h => h) (Or.inl ⟨by rfl, ?_⟩) (by assumption) ?_
  rotate_left
  · intro w hSw; (try dsimp only at hSw); go_simp; (try with_reducible rfl)
  (try simp only [Act.put, List.setIfInBounds_toArray, List.set_cons_zero, List.set_cons_succ])
  refine wpAnyH_take (i := 6) (v := ?_) rfl (by kernel_rfl) (by kernel_rfl) (by kernel_rfl) (fun _ _ _ h => h) (Or.inl ⟨by rfl, ?_⟩) (by assumption) ?_
  rotate_left
  · intro w hSw; (try dsimp only at hSw); go_simp; (try with_reducible rfl)
  (try simp only [Act.put, List.setIfInBounds_toArray, List.set_cons_zero, List.set_cons_succ])
  refine wpAnyH_ready (rs := [7]) (by kernel_rfl) (by simp) (AllReadyH.cons rfl (fun K hK => ?_) AllReadyH.nil)
  go_simp
  refine (rnext_st HK cs T hC (fun _ h => HT.out _ h.2.2.2.2) hd0 (some ⟨xb, xo, none⟩) nx.length nc e x z H2 hl1 hl2 b1 b2 HX64.out).mono ?_
  rintro e5 w5 ⟨rfl, HK⟩
  refine hK.out _ _ (⟨rangeAt_box HK.out.now.2.2.2.1, HK.out.now.2.1 0 _ rfl, (HK.out.now.2.1 1 _ rfl).trans (by rw [hsub.out]), HK.out.now.2.1 2 _ rfl, HK.out.now.1⟩) (fun hHeld => ?_)
  clear hK K
  (try simp only [Act.put, List.setIfInBounds_toArray, List.set_cons_zero, List.set_cons_succ])
  refine wpAnyH_take (i := 8) (v := ?_) rfl (by kernel_rfl) (by kernel_rfl) (by kernel_rfl) (fun _ _ _ h => h) (Or.inl ⟨by rfl, ?_⟩) (by assumption) ?_
  rotate_left
  · intro w hSw; (try dsimp only at hSw); go_simp; (try with_reducible rfl)
  (try simp only [Act.put, List.setIfInBounds_toArray, List.set_cons_zero, List.set_cons_succ])
  refine wpAnyH_done (by kernel_rfl) ?_ _
  go_wp2_with fail
  exact ⟨⟨z, k + 1, by omega, by go_num, rfl, hzv, Lib.hid (HK.out.weaken fun _ h => h.2)⟩, by simp [intOf]; omega⟩
end
end Go.Proofs.Yticfbbigljgjdaa
