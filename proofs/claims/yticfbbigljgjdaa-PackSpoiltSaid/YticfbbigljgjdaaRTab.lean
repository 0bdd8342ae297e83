/- Contracts of umlautref17.terms and next. Condition: the table is known. -/
import Derived.Test.YticfbbigljgjdaaRTermOk
import Derived.Test.YticfbbigljgjdaaTabNode
namespace Go.Proofs.Yticfbbigljgjdaa
open Go.RowKit
set_option linter.unusedVariables false
set_option linter.unusedSimpArgs false
section
variable {w0 w : World} {F : World → Prop}
set_option maxRecDepth 100000 in
set_option maxHeartbeats 16000000 in
theorem rterms_st {A : Option Addr} {l : List TermI} (hK : Hid (St w0 w F)) (hp : ∀ W, F W → TermsAt A l W) (c : Nat) (n : Int) (v : Bool) (hv : Hid (pB (TermsOk n (l.map TermI.L)) = v)) :
    Calls Try.prog 33 #[.slice A l.length c, .int .i64 n] w (RetV w0 (.bool v) F) := by
  have hln := (hp _ hK.out.now).ln
  have HP := Lib.hid hp
  clear hp
  go_enter Try.func33, Try.ntmps33
  go_wp2_with fail
  go_loopw [5] (fun i wr => ∃ k : Nat, k ≤ l.length ∧ i = .int .i64 k ∧ Hid (TermsTo n l k) ∧ Hid (St w0 wr F)) (fun i _ => l.length - (intOf i).toNat)
  case atStart => exact ⟨0, Nat.zero_le _, rfl, Lib.hid (fun i hi => by simp at hi), hK⟩
  case round =>
  obtain ⟨k, hk, rfl, HR, HK⟩ := hrel
  by_cases hlt : k < l.length
  · obtain ⟨pb, off, i, rfl, hx, hw, hd0, hd1, hd2, hd3, hd4, hd5⟩ := (HP.out _ HK.out.now).at_ hlt
    have HX := Lib.hid hx
    have HKi := Lib.hid (HK.out.add (Below.refl _ _) (G := PartsAt i.pa i.ps) (fun W hW => hw.2.below hW))
    clear hx hw
    by_cases a2 : TermOk n i.L
    · have H2 := Lib.hid (pB_true a2)
      have HR2 := Lib.hid (HR.out.next HX.out a2)
      clear a2
      go_wp2_with fail
      refine (rtRight_st HKi (fun _ h => h.1) i.b i.d i.t i.u i.s i.pc n true H2).mono ?_
      rintro e w1 ⟨rfl, HK1⟩
      go_wp2_with fail
      exact ⟨⟨k + 1, by omega, by go_num, HR2, Lib.hid (HK1.out.weaken fun _ h => h.2)⟩, by simp [intOf]; omega⟩
    · have H2 := Lib.hid (pB_false a2)
      obtain rfl := pB_f hv (fun h => a2 (h _ (List.mem_map.2 ⟨i, List.mem_of_getElem? HX.out, rfl⟩)))
      clear a2
      go_wp2_with fail
      refine (rtRight_st HKi (fun _ h => h.1) i.b i.d i.t i.u i.s i.pc n false H2).mono ?_
      rintro e w1 ⟨rfl, HK1⟩
      go_wp2_with fail
      go_ret
      exact ⟨rfl, Lib.hid (HK1.out.weaken fun _ h => h.2)⟩
  · obtain rfl : k = l.length := by omega
    have hd : decide (l.length < l.length) = false := by simp
    obtain rfl := pB_t hv HR.out.all
    go_wp2_with fail
    go_ret
    exact ⟨rfl, HK⟩
set_option maxRecDepth 100000 in
set_option maxHeartbeats 64000000 in
theorem rnext_st (hK : Hid (St w0 w F)) (cs : Array Value) (T : TabI) (hC : TabC cs T) (ht : ∀ W, F W → TabW T W) (hd0 : Int) (na : Option Addr) (nn nc : Nat) (e x : Int) (v : Bool) (hv : Hid (pB (NextOk T.L hd0 x) = v))
    (hl1 : T.ns.length ≤ 4096) (hl2 : T.acts.length ≤ 4096) (b1 : 0 ≤ hd0) (b2 : hd0 ≤ 4) (hx64 : I64 x) :
    Calls Try.prog 34 #[.agg cs, .agg #[.int .i64 hd0, .slice na nn nc, .int .i64 e], .int .i64 x] w (RetV w0 (.bool v) F) := by
  have HT := Lib.hid ht
  have h257 := hC.c2
  have h256 := hC.c1
  have HK1 := St.tbox hK cs
  have HK := St.box HK1 [.int .i64 hd0, .slice na nn nc, .int .i64 e] 47
  have hz : (w.alloc (.cells cs 27)).heap.size = w.heap.size + 1 := by simp
  rw [hz] at HK
  clear ht hz HK1
  have HRES : Hid (∀ W, Hid (St w0 W (fun W => BoxC (w.heap.size + 1) [.int .i64 hd0, .slice na nn nc, .int .i64 e] W ∧ TabBox w.heap.size cs W ∧ F W)) → Hid (St w0 W F)) := Lib.hid fun W h => Lib.hid (h.out.weaken fun _ h => h.2.2)
  by_cases c1 : x = -1
  · subst c1
    obtain rfl := pB_t hv (.inl rfl)
    go_enter Try.func34, Try.ntmps34
    go_wp2_with fail
    go_ret
    exact ⟨rfl, HRES.out _ HK⟩
  have c1a : (x == -1) = false := by rw [beq_eq_false_iff_ne]; exact c1
  by_cases c2 : hd0 = 4
  · obtain rfl := pB_f hv (fun H => by
      rcases H with H | ⟨H, _⟩
      · exact c1 H
      · exact H c2)
    have c2a : (hd0 == 4) = true := by rw [beq_iff_eq]; exact c2
    clear c1 c2
    go_enter Try.func34, Try.ntmps34
    go_wp2_with fail
    go_ret
    exact ⟨rfl, HRES.out _ HK⟩
  have c2a : (hd0 == 4) = false := by rw [beq_eq_false_iff_ne]; exact c2
  have hs : IntKind.i64.wrap (hd0 + 1) = hd0 + 1 := IntWalk.i64_in _ (by omega)
  obtain ⟨q0, q1, q2⟩ := HK.out.now.1.c3
  have p6 := HK.out.now.2.1.cell1 h256
  by_cases c5 : 0 ≤ x
  · obtain ⟨j, rfl⟩ := Int.eq_ofNat_of_zero_le c5
    by_cases hjl : j < T.ns.length
    · obtain ⟨qb, qo, q, hB, hq, hqw, r0, r1, r2⟩ := (HT.out _ HK.out.now.2.2).nodes.at_ hjl
      rw [hB] at p6
      have HQ := Lib.hid hq
      have hji : (j : Int) < (T.ns.length : Int) := by omega
      have hg : decide ((j : Int) < (T.ns.length : Int)) = true := decide_eq_true hji
      have hji2 : decide (j < T.ns.length) = true := decide_eq_true hjl
      have hlq := lt_of_cell r0
      have g6 := h256
      rw [hB] at g6
      clear hq hqw c1 r1 r2 c1a h256 q1 q2
      by_cases c6 : q.h = hd0 + 1
      · obtain rfl := pB_t hv (.inr ⟨c2, .inl ⟨c5, _, nodesL_at HQ.out, c6⟩⟩)
        have c6a : (q.h == hd0 + 1) = true := by rw [beq_iff_eq]; exact c6
        clear c6 c2
        go_enter Try.func34, Try.ntmps34
        go_wp2_with fail
        go_quiet (fail)
        go_wp2_with fail
        go_ret
        exact ⟨rfl, HRES.out _ (St.hdrewN HK nq)⟩
      · obtain rfl := pB_f hv (fun H => c6 (next_at (nodesL_at HQ.out) H))
        have c6a : (q.h == hd0 + 1) = false := by rw [beq_eq_false_iff_ne]; exact c6
        clear c6 c2
        go_enter Try.func34, Try.ntmps34
        go_wp2_with fail
        go_quiet (fail)
        go_wp2_with fail
        go_ret
        exact ⟨rfl, HRES.out _ (St.hdrewN HK nq)⟩
    · obtain rfl := pB_f hv (fun H => by
        rcases H with H | ⟨_, ⟨_, n, hn, _⟩ | ⟨H, _⟩⟩
        · exact c1 H
        · have := (List.getElem?_eq_some_iff.1 hn).1
          rw [nodesL_len, Int.toNat_natCast] at this; omega
        · omega)
      have hg : decide ((j : Int) < (T.ns.length : Int)) = false := decide_eq_false (by omega)
      have hg2 : decide (j < T.ns.length) = false := decide_eq_false hjl
      clear c1 c1a c2 hjl
      go_enter Try.func34, Try.ntmps34
      go_wp2_with fail
      go_quiet (fail)
      go_wp2_with fail
      go_ret
      exact ⟨rfl, HRES.out _ (St.hdrewN HK nq)⟩
  have hxm : x ≤ -2 := by omega
  have hxlo := hx64.1
  go_enter Try.func34, Try.ntmps34
  go_wp2_with fail
  go_loopw [7] (fun i wr => ∃ k : Nat, k ≤ T.acts.length ∧ i = .int .i64 k ∧ Hid (∀ j : Nat, j < k → x ≠ -2 - (j : Int)) ∧ Hid (St w0 wr (fun W => BoxC (w.heap.size + 1) [.int .i64 hd0, .slice na nn nc, .int .i64 e] W ∧ TabBox w.heap.size cs W ∧ F W))) (fun i _ => T.acts.length - (intOf i).toNat)
  case atStart => exact ⟨0, Nat.zero_le _, rfl, Lib.hid (fun j hj => by omega), HK⟩
  case round =>
  clear HK q0 q1 q2 p6
  obtain ⟨k, hk, rfl, HR, HK⟩ := hrel
  obtain ⟨q0, q1, q2⟩ := HK.out.now.1.c3
  have p7 := HK.out.now.2.1.cell1 h257
  by_cases hlt : k < T.acts.length
  · by_cases c3 : x = -2 - (k : Int)
    · obtain ⟨ab, ao, a, hB, ha, haw, r0, r1, r2⟩ := (HT.out _ HK.out.now.2.2).acts.at_ hlt
      have HA := Lib.hid ha
      have HJ : Hid (-2 - x = (k : Int)) := Lib.hid (by omega)
      have hji : (k : Int) < (T.acts.length : Int) := by omega
      have hj0 : (0 : Int) ≤ (k : Int) := by omega
      have g7 := h257
      rw [hB] at p7 g7
      have HKo := Lib.hid (HK.out.add (Below.refl _ _) (G := fun W => W.cell? ⟨ab, ao + k * 3, none⟩ = some (.int .i64 a.e) ∧ W.cell? ⟨ab, ao + k * 3 + 2, none⟩ = some (.slice a.o.a a.o.l.length a.o.c) ∧ OutW a.o W)
        (fun W hW => ⟨(hW.cell (p := ⟨ab, ao + k * 3, none⟩) (lt_of_cell r0)).trans r0, (hW.cell (p := ⟨ab, ao + k * 3 + 2, none⟩) (lt_of_cell r2)).trans r2, OutW.stays _ _ _ haw.2 hW⟩))
      have c3a : (x == -2 - (k : Int)) = true := by rw [beq_iff_eq]; exact c3
      clear ha haw c1 c1a hB c5 c3
      by_cases c7 : a.e ≤ hd0 + 1
      · have hg7 : decide (a.e ≤ hd0 + 1) = true := decide_eq_true c7
        have HVV : Hid (pB (TermsOk (hd0 + 1) (a.o.l.map TermI.L)) = v) := Lib.hid (by
          rw [← hv.out]
          refine pB_congr ⟨fun H => .inr ⟨c2, .inr ⟨hxm, a.L, by rw [HJ.out, Int.toNat_natCast]; exact actsL_at HA.out, c7, H⟩⟩, fun H => (next_act HJ.out (actsL_at HA.out) H).2⟩)
        clear c7 c2
        go_wp2_with fail
        have HK := St.hdrewN HKo 1
        go_region_held3 (fun W => W.cell? ⟨w.heap.size + 1, 0, none⟩ = some (.int .i64 hd0) ∧ W.cell? ⟨w.heap.size, 257, none⟩ = some (.slice (some ⟨ab, ao, none⟩) T.acts.length T.ac) ∧ W.cell? ⟨ab, ao + k * 3, none⟩ = some (.int .i64 a.e) ∧ W.cell? ⟨ab, ao + k * 3 + 2, none⟩ = some (.slice a.o.a a.o.l.length a.o.c))
          (first | exact ⟨HK.out.now.2.1 0 _ rfl, HK.out.now.2.2.1.cell1 g7, HK.out.now.1.1, HK.out.now.1.2.1⟩ | go_keep)
          ((go_at_call 33; refine (rterms_st HK (fun _ h => h.1.2.2) a.o.c (hd0 + 1) v HVV).mono ?_; rintro e5 w5 ⟨rfl, HK⟩))
        go_wp2_with fail
        go_ret
        exact ⟨rfl, HRES.out _ (Lib.hid (HK.out.weaken fun _ h => h.2))⟩
      · have hg7 : decide (a.e ≤ hd0 + 1) = false := decide_eq_false c7
        obtain rfl := pB_f hv (fun H => c7 (next_act HJ.out (actsL_at HA.out) H).1)
        clear c7 c2
        go_wp2_with fail
        go_quiet (fail)
        go_wp2_with fail
        go_ret
        exact ⟨rfl, HRES.out _ (St.hdrewN HK nq)⟩
    · have c3a : (x == -2 - (k : Int)) = false := by rw [beq_eq_false_iff_ne]; exact c3
      have HN : Hid (∀ j : Nat, j < k + 1 → x ≠ -2 - (j : Int)) := Lib.hid fun j hj => by
        by_cases e : j = k
        · subst e; exact c3
        · exact HR.out j (by omega)
      clear c3 c1 c1a c2 c5
      go_wp2_with fail
      exact ⟨⟨k + 1, by omega, by go_num, HN, HK⟩, by simp [intOf]; omega⟩
  · obtain rfl : k = T.acts.length := by omega
    have hd : decide (T.acts.length < T.acts.length) = false := by simp
    obtain rfl := pB_f hv (fun H => by
      rcases H with H | ⟨_, ⟨H, _⟩ | ⟨h1, n, hn, _⟩⟩
      · exact c1 H
      · omega
      · have := (List.getElem?_eq_some_iff.1 hn).1
        rw [actsL_len] at this
        exact HR.out (-2 - x).toNat this (by omega))
    clear c1 c1a c2 c5
    go_wp2_with fail
    go_ret
    exact ⟨rfl, HRES.out _ HK⟩
end
end Go.Proofs.Yticfbbigljgjdaa
