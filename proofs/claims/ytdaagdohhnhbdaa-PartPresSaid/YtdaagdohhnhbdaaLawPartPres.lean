/- umlautlaw03.PartPres: the walk. The numbers of any set whose values are in any other one are the document's. Condition: none beyond the row's own. -/
import Derived.Test.YtdaagdohhnhbdaaLift03
import Derived.Deep.RegionHeld
namespace Go.Proofs.Ytdaagdohhnhbdaa
open Go.RowKit Go.Shelf
set_option linter.unusedVariables false
set_option linter.unusedSimpArgs false
attribute [local go_sem] Oper.semAt_some

set_option maxRecDepth 100000 in
set_option maxHeartbeats 16000000 in
theorem PartPres_walk (p0 p1 p2 p3 : Int) (As : Option Addr) (ns cs : Nat) (s : List Sp) (Ag : Option Addr) (ng cg : Nat) (g : List Sp) (w : World)
    (wp : (Lit.int .i64 p0).wf = true ∧ (Lit.int .i64 p1).wf = true ∧ (Lit.int .i64 p2).wf = true ∧ (Lit.int .i64 p3).wf = true)
    (hss : Spans w As ns s) (hws : SpW s) (hns : ns ≤ 9223372036854775807) (hsg : Spans w Ag ng g) (hwg : SpW g) (hng : ng ≤ 9223372036854775807) :
    Calls Try.prog 3 #[.agg #[.int .i64 p0, .int .i64 p1, .int .i64 p2, .int .i64 p3], .slice As ns cs, .slice Ag ng cg] w fun e w' => e = .returned (.bool true) ∧ Below w.heap.size w w' := by
  obtain rfl := hss.len
  obtain rfl := hsg.len
  clear wp
  rcases hbig : big3 s.length g.length with _ | _
  · obtain ⟨h50, h8⟩ := big3_no hbig
    have HBG := Lib.hid hbig
    have HK : Hid (St w w (fun W => Lst As s W ∧ Lst Ag g W ∧ True)) := Lib.hid (St.start (fun W hW => ⟨⟨hss.below hW, hws, by omega⟩, ⟨hsg.below hW, hwg, by omega⟩, trivial⟩))
    have HK := St.pbox HK p0 p1 p2 p3
    obtain ⟨r, Rr⟩ := rep_pre p1 p2 p3 s g
    clear hbig hss hsg hns hng
    go_enter Try.func3, Try.ntmps3
    go_wp2_with fail
    refine (great03_st HK s.length g.length _ _ HBG.out).mono ?_
    rintro e w1 ⟨rfl, HK⟩
    obtain ⟨hp0, hp1, hp2, hp3⟩ := HK.out.now.1
    go_wp2_with fail
    refine wp_region_held_drew (by kernel_rfl) (S := fun W => W.cell? ⟨w.heap.size, 0, none⟩ = some (.int .i64 p0) ∧ W.cell? ⟨w.heap.size, 1, none⟩ = some (.int .i64 p1) ∧ W.cell? ⟨w.heap.size, 2, none⟩ = some (.int .i64 p2) ∧ W.cell? ⟨w.heap.size, 3, none⟩ = some (.int .i64 p3)) ⟨hp0, hp1, hp2, hp3⟩ (fun hHeld => ?_)
    refine wpAnyH_take (i := 0) (v := ?_) rfl (by kernel_rfl) (by kernel_rfl) (by kernel_rfl) (fun _ _ _ h => h) (Or.inl ⟨by rfl, ?_⟩) (by assumption) ?_
    rotate_left
    · intro w hSw; (try dsimp only at hSw); go_simp; (try with_reducible rfl)
    (try simp only [Act.put, List.setIfInBounds_toArray, List.set_cons_zero, List.set_cons_succ])
    refine wpAnyH_take (i := 1) (v := ?_) rfl (by kernel_rfl) (by kernel_rfl) (by kernel_rfl) (fun _ _ _ h => h) (Or.inl ⟨by rfl, ?_⟩) (by assumption) ?_
    rotate_left
    · intro w hSw; (try dsimp only at hSw); go_simp; (try with_reducible rfl)
    (try simp only [Act.put, List.setIfInBounds_toArray, List.set_cons_zero, List.set_cons_succ])
    refine wpAnyH_take (i := 2) (v := ?_) rfl (by kernel_rfl) (by kernel_rfl) (by kernel_rfl) (fun _ _ _ h => h) (Or.inl ⟨by rfl, ?_⟩) (by assumption) ?_
    rotate_left
    · intro w hSw; (try dsimp only at hSw); go_simp; (try with_reducible rfl)
    (try simp only [Act.put, List.setIfInBounds_toArray, List.set_cons_zero, List.set_cons_succ])
    refine wpAnyH_take (i := 4) (v := ?_) rfl (by kernel_rfl) (by kernel_rfl) (by kernel_rfl) (fun _ _ _ h => h) (Or.inl ⟨by rfl, ?_⟩) (by assumption) ?_
    rotate_left
    · intro w hSw; (try dsimp only at hSw); go_simp; (try with_reducible rfl)
    (try simp only [Act.put, List.setIfInBounds_toArray, List.set_cons_zero, List.set_cons_succ])
    refine wpAnyH_take (i := 5) (v := ?_) rfl (by kernel_rfl) (by kernel_rfl) (by kernel_rfl) (fun _ _ _ h => h) (Or.inl ⟨by rfl, ?_⟩) (by assumption) ?_
    rotate_left
    · intro w hSw; (try dsimp only at hSw); go_simp; (try with_reducible rfl)
    (try simp only [Act.put, List.setIfInBounds_toArray, List.set_cons_zero, List.set_cons_succ])
    refine wpAnyH_take (i := 6) (v := ?_) rfl (by kernel_rfl) (by kernel_rfl) (by kernel_rfl) (fun _ _ _ h => h) (Or.inl ⟨by rfl, ?_⟩) (by assumption) ?_
    rotate_left
    · intro w hSw; (try dsimp only at hSw); go_simp; (try with_reducible rfl)
    (try simp only [Act.put, List.setIfInBounds_toArray, List.set_cons_zero, List.set_cons_succ])
    refine wpAnyH_ready (rs := [3]) (by kernel_rfl) (by simp) (AllReadyH.cons rfl (fun K hK => ?_) AllReadyH.nil)
    go_simp
    refine (Pre_st (St.hdrewN HK 1) (fun _ h => h.2.1) (fun _ h => h.2.2.1) _ _ p0 p1 p2 p3 Rr).mono ?_
    rintro e w3 ⟨A3, c3, rfl, HK⟩
    refine hK.out _ _ (HK.out.now.2.1) (fun hHeld => ?_)
    clear hK K
    (try simp only [Act.put, List.setIfInBounds_toArray, List.set_cons_zero, List.set_cons_succ])
    refine wpAnyH_ready (rs := [7]) (by kernel_rfl) (by simp) (AllReadyH.cons rfl (fun K hK => ?_) AllReadyH.nil)
    go_simp
    refine (rPre_st HK (fun _ h => h.2.2.1) (fun _ h => h.2.2.2.1) (by omega) (by omega) _ _ p0 p1 p2 p3 Rr).mono ?_
    rintro e w4 ⟨A4, c4, rfl, HK⟩
    refine hK.out _ _ (HK.out.now.2.2.1) (fun hHeld => ?_)
    clear hK K
    (try simp only [Act.put, List.setIfInBounds_toArray, List.set_cons_zero, List.set_cons_succ])
    refine wpAnyH_ready (rs := [8]) (by kernel_rfl) (by simp) (AllReadyH.cons rfl (fun K hK => ?_) AllReadyH.nil)
    go_simp
    refine (Same_st HK (fun _ h => h.2.1) (fun _ h => h.1) _ _ (decide_eq_true rfl)).mono ?_
    rintro e w5 ⟨rfl, HK⟩
    refine hK.out _ _ (HK.out.now.2.2.1) (fun hHeld => ?_)
    clear hK K
    (try simp only [Act.put, List.setIfInBounds_toArray, List.set_cons_zero, List.set_cons_succ])
    refine wpAnyH_take (i := 9) (v := ?_) rfl (by kernel_rfl) (by kernel_rfl) (by kernel_rfl) (fun _ _ _ h => h) (Or.inl ⟨by rfl, ?_⟩) (by assumption) ?_
    rotate_left
    · intro w hSw; (try dsimp only at hSw); go_simp; (try with_reducible rfl)
    (try simp only [Act.put, List.setIfInBounds_toArray, List.set_cons_zero, List.set_cons_succ])
    refine wpAnyH_ready (rs := [10]) (by kernel_rfl) (by simp) (AllReadyH.cons rfl (fun K hK => ?_) AllReadyH.nil)
    go_simp
    refine (awake03_st HK).mono ?_
    rintro e w6 ⟨rfl, HK⟩
    refine hK.out _ _ (HK.out.now.2.2.1) (fun hHeld => ?_)
    clear hK K
    (try simp only [Act.put, List.setIfInBounds_toArray, List.set_cons_zero, List.set_cons_succ])
    refine wpAnyH_take (i := 11) (v := ?_) rfl (by kernel_rfl) (by kernel_rfl) (by kernel_rfl) (fun _ _ _ h => h) (Or.inl ⟨by rfl, ?_⟩) (by assumption) ?_
    rotate_left
    · intro w hSw; (try dsimp only at hSw); go_simp; (try with_reducible rfl)
    (try simp only [Act.put, List.setIfInBounds_toArray, List.set_cons_zero, List.set_cons_succ])
    refine wpAnyH_take (i := 12) (v := ?_) rfl (by kernel_rfl) (by kernel_rfl) (by kernel_rfl) (fun _ _ _ h => h) (Or.inl ⟨by rfl, ?_⟩) (by assumption) ?_
    rotate_left
    · intro w hSw; (try dsimp only at hSw); go_simp; (try with_reducible rfl)
    (try simp only [Act.put, List.setIfInBounds_toArray, List.set_cons_zero, List.set_cons_succ])
    refine wpAnyH_done (by kernel_rfl) ?_ _
    go_wp2_with fail
    go_ret
    exact ⟨rfl, HK.out.2⟩
  · have HBG := Lib.hid hbig
    have HK : Hid (St w w (fun W => True)) := Lib.hid (St.start (fun W hW => trivial))
    have HK := St.pbox HK p0 p1 p2 p3
    clear hbig hss hsg hns hng
    go_enter Try.func3, Try.ntmps3
    go_wp2_with fail
    refine (great03_st HK s.length g.length _ _ HBG.out).mono ?_
    rintro e w1 ⟨rfl, HK⟩
    go_wp2_with fail
    refine (awake03_st HK).mono ?_
    rintro e w2 ⟨rfl, HK⟩
    go_wp2_with fail
    go_ret
    exact ⟨rfl, HK.out.2⟩
end Go.Proofs.Ytdaagdohhnhbdaa
