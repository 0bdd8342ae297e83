/- umlautlaw17.TableChecks: the walk. Whether any table is right, and the most that it writes at once. Condition: none beyond the row's own. -/
import Derived.Test.YtlmkokeapbleoaaGreatM16
import Derived.Test.YtlmkokeapbleoaaGreatM17
namespace Go.Proofs.YtlmkokeapbleoaaGreat
open Go.RowKit
set_option linter.unusedVariables false
set_option linter.unusedSimpArgs false
theorem exec_load_row17 {P : Program} {op : Oper} {a : Act} {w : World} (ty : TypeId) (x : Operand) (ho : op.op = .load ty x)
    (g : Nat) (hx : a.eval x = .pointer (some ⟨g, 0, none⟩)) (t : TypeId) (cs : Array Value) (fr : Nat × Nat) (d : TypeDesc) (hS : w.heap[g]? = some (.cells cs t fr))
    (hu : P.underlying ty = some d) (hd : (match d with | .struct _ | .array _ _ => true | _ => false) = true) (hi : (P.info? ty).map (·.size) = some cs.size) : (execOp a.eval op).run P w = .ok (.value (.agg cs)) w := by
  unfold execOp
  simp only [ho, hx, Instr.loadAt, Instr.sureAddr, Sem.run_bind, Sem.run_pure, Result.andThen_ok, run_loadVar_row w g t ty cs fr d hS hu hd hi]
theorem tab_start17 {w : World} {cs : Array Value} {T : TabI} (hT : TabW T w) : Hid (St w (w.alloc (.cells cs 49)) (fun W => TabBox w.heap.size cs W ∧ TabW T W)) :=
  St.tbox (Lib.hid (St.start (fun W hW => hT.below hW))) cs
set_option maxRecDepth 100000 in
set_option maxHeartbeats 16000000 in
theorem TableChecks_walk (cs : Array Value) (T : TabI) (w : World) (hC : TabC cs T) (hT : TabW T w) :
    Calls Tryz.prog 6 #[.agg cs] w fun e w' => e = .returned (.bool true) ∧ Below w.heap.size w w' := by
  have HK := tab_start17 (cs := cs) hT
  have HC := Lib.hid hC
  have HI : Hid ((Tryz.prog.info? 49).map (·.size) = some cs.size) := Lib.hid (by rw [hC.size]; exact info_tabS)
  have HFT : Hid (∀ W, TabBox w.heap.size cs W ∧ TabW T W → TabW T W) := Lib.hid fun W h => h.2
  have h258 := hC.c3
  have h257 := hC.c2
  clear hC hT
  go_enter Tryz.func6, Tryz.ntmps6
  by_cases hs : SmallT T.L
  case neg =>
    have HV := Lib.hid (pB_false hs)
    clear hs
    go_wp2_with (first
      | (refine wpList_load_row rfl 49 _ rfl w.heap.size rfl _ cs _ _ HK.out.now.1 Tryz.underlying49 rfl HI.out ?_)
      | (go_at_call 32; refine (Small_st HK cs T HC.out HFT.out false HV).mono ?_; rintro e w2 ⟨rfl, HK2⟩)
      | (go_at_call 27; refine (awake17_st HK2).mono ?_; rintro e w3 ⟨rfl, HK3⟩))
    go_ret
    exact ⟨rfl, HK3.out.2⟩
  have HV := Lib.hid (pB_true hs)
  clear hs
  go_wp2_with (first
    | (refine wpList_load_row rfl 49 _ rfl w.heap.size rfl _ cs _ _ HK.out.now.1 Tryz.underlying49 rfl HI.out ?_)
    | (go_at_call 32; refine (Small_st HK cs T HC.out HFT.out true HV).mono ?_; rintro e w2 ⟨rfl, HK2⟩))
  have HB1 := Lib.hid (mact_len (HFT.out _ HK2.out.now))
  have HB2 := Lib.hid (mend_len (HFT.out _ HK2.out.now))
  have hln2 := (HFT.out _ HK2.out.now).acts.ln
  have hln3 := (HFT.out _ HK2.out.now).ends.ln
  clear HK HV
  go_loopw [3, 4] (fun s i wr => ∃ (k n : Nat), k ≤ T.acts.length ∧ i = .int .i64 k ∧ s = .int .i64 (n : Int) ∧ n ≤ 9223372036854775807 ∧ Hid (n = ((T.L.acts.take k).map fun a => a.out.length).foldl max 0) ∧ Hid (St w wr (fun W => TabBox w.heap.size cs W ∧ TabW T W))) (fun _ i _ => T.acts.length - (intOf i).toNat)
  case atStart => exact ⟨0, 0, by omega, rfl, rfl, by omega, Lib.hid (by simp), HK2⟩
  case round =>
  clear HK2
  obtain ⟨k, n, hk, rfl, rfl, hn, HN, HK⟩ := hrel
  have p7 := HK.out.now.1.cell1 h257
  by_cases hlt : k < T.acts.length
  · obtain ⟨b, off, q, hA, hx, hw, r0, r1, r2⟩ := (HFT.out _ HK.out.now).acts.at_ hlt
    rw [hA] at p7
    have hpl := hw.2.ln
    have hxl := actsL_at hx
    obtain ⟨m, hm⟩ : ∃ m : Nat, max n q.o.l.length = m := ⟨_, rfl⟩
    have HN2 : Hid (m = ((T.L.acts.take (k + 1)).map fun a => a.out.length).foldl max 0) := Lib.hid (by
      rw [max_take (fun a : ActL => a.out.length) hxl, ← HN.out, ← hm]
      show _ = max n (q.o.l.map TermI.L).length
      rw [List.length_map])
    have hm1 : m ≤ 9223372036854775807 := by omega
    have hmi : max (n : Int) (q.o.l.length : Int) = (m : Int) := by omega
    clear hx hw hxl hm hA
    go_wp2_with fail
    exact ⟨⟨k + 1, m, by omega, by go_num, by go_num, hm1, HN2, HK⟩, by simp [intOf]; omega⟩
  obtain rfl : k = T.acts.length := by omega
  have hd : decide (T.acts.length < T.acts.length) = false := by simp
  have HN2 : Hid (n = (T.L.acts.map fun a => a.out.length).foldl max 0) := Lib.hid (by
    have h1 := HN.out
    rwa [← actsL_len, List.take_length] at h1)
  have hn2 := hn
  obtain ⟨n2, hnn⟩ : ∃ n2, n = n2 := ⟨_, rfl⟩
  rw [hnn] at hn2 HN2 ⊢
  clear HN hn hnn n
  go_wp2_with fail
  clear hd p7
  go_loopw [3, 5] (fun s i wr => ∃ (k n : Nat), k ≤ T.es.length ∧ i = .int .i64 k ∧ s = .int .i64 (n : Int) ∧ n ≤ 9223372036854775807 ∧ Hid (n = ((T.L.ends.take k).map List.length).foldl max n2) ∧ Hid (St w wr (fun W => TabBox w.heap.size cs W ∧ TabW T W))) (fun _ i _ => T.es.length - (intOf i).toNat)
  case atStart => exact ⟨0, n2, by omega, rfl, rfl, by omega, Lib.hid (by simp), HK⟩
  case round =>
  clear HK
  obtain ⟨k, n, hk, rfl, rfl, hn, HN, HK⟩ := hrel
  have p8 := HK.out.now.1.cell1 h258
  by_cases hlt : k < T.es.length
  · obtain ⟨b, off, q, hA, hx, hw, r0⟩ := (HFT.out _ HK.out.now).ends.at_ hlt
    rw [hA] at p8
    have hxl := endsL_at hx
    have hpl := hw.ln
    obtain ⟨m, hm⟩ : ∃ m : Nat, max n q.l.length = m := ⟨_, rfl⟩
    have HN3 : Hid (m = ((T.L.ends.take (k + 1)).map List.length).foldl max n2) := Lib.hid (by
      rw [max_take List.length hxl, ← HN.out, ← hm]
      show _ = max n (q.l.map TermI.L).length
      rw [List.length_map])
    have hm1 : m ≤ 9223372036854775807 := by omega
    have hmi : max (n : Int) (q.l.length : Int) = (m : Int) := by omega
    clear hx hw hxl hm hA
    go_wp2_with fail
    exact ⟨⟨k + 1, m, by omega, by go_num, by go_num, hm1, HN3, HK⟩, by simp [intOf]; omega⟩
  obtain rfl : k = T.es.length := by omega
  have hd : decide (T.es.length < T.es.length) = false := by simp
  have HMO : Hid (mostL T.L = n) := Lib.hid (by
    have h1 := HN.out
    rw [← endsL_len, List.take_length, HN2.out] at h1
    unfold mostL
    exact h1.symm)
  obtain ⟨v, hv⟩ : ∃ v, pB (TabOk T.L) = v := ⟨_, rfl⟩
  have HCK := Lib.hid hv
  clear hv HN HN2 HB1 HB2 h257 h258
  go_wp2_with fail
  clear hd p8
  have HKB : Hid (∀ W, Below wr.heap.size wr W → Hid (St w W (fun W => TabBox w.heap.size cs W ∧ TabW T W))) := Lib.hid fun W hW => Lib.hid (HK.out.step hW)
  have HK1 := HKB.out _ (below_drewN (Below.refl _ _) 1)
  refine wp_region_held_drew (by kernel_rfl) (S := fun W => TabBox w.heap.size cs W) HK1.out.now.1 (fun hHeld => ?_)
  refine wpAnyH_take (i := 0) (v := .agg cs) rfl (by kernel_rfl) (by kernel_rfl) (by kernel_rfl) (fun _ _ _ h => h) (.inl ⟨by kernel_rfl, ?_⟩) (by assumption) ?_
  · intro w5 hSw
    exact exec_load_row17 49 (.tmp 1) rfl w.heap.size rfl 49 cs (0, 0) _ hSw Tryz.underlying49 rfl HI.out
  (try simp only [Act.put, List.getElem_toArray, List.getElem_cons_succ, List.getElem_cons_zero, List.setIfInBounds_toArray, List.set_cons_zero, List.set_cons_succ])
  refine wpAnyH_take (i := 2) (v := .agg cs) rfl (by kernel_rfl) (by kernel_rfl) (by kernel_rfl) (fun _ _ _ h => h) (.inl ⟨by kernel_rfl, ?_⟩) (by assumption) ?_
  · intro w5 hSw
    exact exec_load_row17 49 (.tmp 1) rfl w.heap.size rfl 49 cs (0, 0) _ hSw Tryz.underlying49 rfl HI.out
  (try simp only [Act.put, List.getElem_toArray, List.getElem_cons_succ, List.getElem_cons_zero, List.setIfInBounds_toArray, List.set_cons_zero, List.set_cons_succ])
  refine wpAnyH_ready (rs := [1]) (by kernel_rfl) (by simp) (AllReadyH.cons rfl (fun K hK => ?_) AllReadyH.nil)
  go_simp
  refine (tCheck_st HK1 cs T HC.out HFT.out v HCK).mono ?_
  rintro e w4 ⟨rfl, HK4⟩
  refine hK.out _ _ (HK4.out.now.1) (fun hHeld => ?_)
  clear hK K
  (try simp only [Act.put, List.getElem_toArray, List.getElem_cons_succ, List.getElem_cons_zero, List.setIfInBounds_toArray, List.set_cons_zero, List.set_cons_succ])
  refine wpAnyH_ready (rs := [3]) (by kernel_rfl) (by simp) (AllReadyH.cons rfl (fun K hK => ?_) AllReadyH.nil)
  go_simp
  refine (rCheck_st HK4 cs T HC.out HFT.out v HCK).mono ?_
  rintro e w5 ⟨rfl, HK5⟩
  refine hK.out _ _ (HK5.out.now.1) (fun hHeld => ?_)
  clear hK K
  (try simp only [Act.put, List.getElem_toArray, List.getElem_cons_succ, List.getElem_cons_zero, List.setIfInBounds_toArray, List.set_cons_zero, List.set_cons_succ])
  have hvv : (v == v) = true := by simp
  refine wpAnyH_take (i := 4) (v := ?_) rfl (by kernel_rfl) (by kernel_rfl) (by kernel_rfl) (fun _ _ _ h => h) (Or.inl ⟨by first | kernel_rfl | rfl, ?_⟩) (by assumption) ?_
  rotate_left
  · intro w hSw; (try dsimp only at hSw); go_simp; (try with_reducible rfl)
  (try simp only [Act.put, List.getElem_toArray, List.getElem_cons_succ, List.getElem_cons_zero, List.setIfInBounds_toArray, List.set_cons_zero, List.set_cons_succ])
  refine wpAnyH_take (i := 5) (v := ?_) rfl (by kernel_rfl) (by kernel_rfl) (by kernel_rfl) (fun _ _ _ h => h) (Or.inl ⟨by first | kernel_rfl | rfl, ?_⟩) (by assumption) ?_
  rotate_left
  · intro w hSw; (try dsimp only at hSw); go_simp; (try with_reducible rfl)
  (try simp only [Act.put, List.getElem_toArray, List.getElem_cons_succ, List.getElem_cons_zero, List.setIfInBounds_toArray, List.set_cons_zero, List.set_cons_succ])
  refine wpAnyH_take (i := 6) (v := .agg cs) rfl (by kernel_rfl) (by kernel_rfl) (by kernel_rfl) (fun _ _ _ h => h) (.inl ⟨by kernel_rfl, ?_⟩) (by assumption) ?_
  · intro w5 hSw
    exact exec_load_row17 49 (.tmp 1) rfl w.heap.size rfl 49 cs (0, 0) _ hSw Tryz.underlying49 rfl HI.out
  (try simp only [Act.put, List.getElem_toArray, List.getElem_cons_succ, List.getElem_cons_zero, List.setIfInBounds_toArray, List.set_cons_zero, List.set_cons_succ])
  refine wpAnyH_take (i := 8) (v := ?_) rfl (by kernel_rfl) (by kernel_rfl) (by kernel_rfl) (fun _ _ _ h => h) (Or.inl ⟨by first | kernel_rfl | rfl, ?_⟩) (by assumption) ?_
  rotate_left
  · intro w hSw; (try dsimp only at hSw); go_simp; (try with_reducible rfl)
  (try simp only [Act.put, List.getElem_toArray, List.getElem_cons_succ, List.getElem_cons_zero, List.setIfInBounds_toArray, List.set_cons_zero, List.set_cons_succ])
  refine wpAnyH_ready (rs := [7]) (by kernel_rfl) (by simp) (AllReadyH.cons rfl (fun K hK => ?_) AllReadyH.nil)
  go_simp
  refine (Most_st HK5 cs T HC.out HFT.out n HMO).mono ?_
  rintro e w6 ⟨rfl, HK6⟩
  refine hK.out _ _ (HK6.out.now.1) (fun hHeld => ?_)
  clear hK K
  (try simp only [Act.put, List.getElem_toArray, List.getElem_cons_succ, List.getElem_cons_zero, List.setIfInBounds_toArray, List.set_cons_zero, List.set_cons_succ])
  refine wpAnyH_take (i := 9) (v := ?_) rfl (by kernel_rfl) (by kernel_rfl) (by kernel_rfl) (fun _ _ _ h => h) (Or.inl ⟨by first | kernel_rfl | rfl, ?_⟩) (by assumption) ?_
  rotate_left
  · intro w hSw; (try dsimp only at hSw); go_simp; (try with_reducible rfl)
  (try simp only [Act.put, List.getElem_toArray, List.getElem_cons_succ, List.getElem_cons_zero, List.setIfInBounds_toArray, List.set_cons_zero, List.set_cons_succ])
  refine wpAnyH_take (i := 10) (v := ?_) rfl (by kernel_rfl) (by kernel_rfl) (by kernel_rfl) (fun _ _ _ h => h) (Or.inl ⟨by first | kernel_rfl | rfl, ?_⟩) (by assumption) ?_
  rotate_left
  · intro w hSw; (try dsimp only at hSw); go_simp; (try with_reducible rfl)
  (try simp only [Act.put, List.getElem_toArray, List.getElem_cons_succ, List.getElem_cons_zero, List.setIfInBounds_toArray, List.set_cons_zero, List.set_cons_succ])
  refine wpAnyH_take (i := 11) (v := ?_) rfl (by kernel_rfl) (by kernel_rfl) (by kernel_rfl) (fun _ _ _ h => h) (Or.inl ⟨by first | kernel_rfl | rfl, ?_⟩) (by assumption) ?_
  rotate_left
  · intro w hSw; (try dsimp only at hSw); go_simp; (try with_reducible rfl)
  (try simp only [Act.put, List.getElem_toArray, List.getElem_cons_succ, List.getElem_cons_zero, List.setIfInBounds_toArray, List.set_cons_zero, List.set_cons_succ])
  refine wpAnyH_ready (rs := [12]) (by kernel_rfl) (by simp) (AllReadyH.cons rfl (fun K hK => ?_) AllReadyH.nil)
  go_simp
  refine (awake17_st HK6).mono ?_
  rintro e w7 ⟨rfl, HK7⟩
  refine hK.out _ _ (HK7.out.now.1) (fun hHeld => ?_)
  clear hK K
  (try simp only [Act.put, List.getElem_toArray, List.getElem_cons_succ, List.getElem_cons_zero, List.setIfInBounds_toArray, List.set_cons_zero, List.set_cons_succ])
  refine wpAnyH_take (i := 13) (v := ?_) rfl (by kernel_rfl) (by kernel_rfl) (by kernel_rfl) (fun _ _ _ h => h) (Or.inl ⟨by first | kernel_rfl | rfl, ?_⟩) (by assumption) ?_
  rotate_left
  · intro w hSw; (try dsimp only at hSw); go_simp; (try with_reducible rfl)
  (try simp only [Act.put, List.getElem_toArray, List.getElem_cons_succ, List.getElem_cons_zero, List.setIfInBounds_toArray, List.set_cons_zero, List.set_cons_succ])
  refine wpAnyH_take (i := 14) (v := ?_) rfl (by kernel_rfl) (by kernel_rfl) (by kernel_rfl) (fun _ _ _ h => h) (Or.inl ⟨by first | kernel_rfl | rfl, ?_⟩) (by assumption) ?_
  rotate_left
  · intro w hSw; (try dsimp only at hSw); go_simp; (try with_reducible rfl)
  (try simp only [Act.put, List.getElem_toArray, List.getElem_cons_succ, List.getElem_cons_zero, List.setIfInBounds_toArray, List.set_cons_zero, List.set_cons_succ])
  refine wpAnyH_done (by kernel_rfl) ?_ _
  go_wp2_with fail
  go_ret
  exact ⟨rfl, HK7.out.2⟩
end Go.Proofs.YtlmkokeapbleoaaGreat
