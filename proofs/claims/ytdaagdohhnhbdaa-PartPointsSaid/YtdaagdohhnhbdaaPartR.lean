/- Contract of umlautref03.Value. Condition: the numbers are ints. -/
import Derived.Test.YtdaagdohhnhbdaaPart
namespace Go.Proofs.Ytdaagdohhnhbdaa
open Go.RowKit
set_option linter.unusedVariables false

set_option maxRecDepth 100000 in
set_option maxHeartbeats 4000000 in
theorem rValue_any (a d t u x : Int) (w : World) : Gives Try.prog 30 #[.agg #[.int .i64 a, .int .i64 d, .int .i64 t, .int .i64 u], .int .i64 x] w
    (if bitsB d t u = true ∧ 0 ≤ x ∧ x ≤ 2097151 then .tuple #[.int .i64 (pval d t u x), .bool true] else .tuple #[.int .i64 0, .bool false]) := by
  unfold Gives
  have HB := Lib.hid (fun w => rBits_any a d t u w)
  rcases hv : bitsB d t u with _ | _
  · rw [if_neg (by simp)]
    rw [hv] at HB
    clear hv
    go_enter Try.func30, Try.ntmps30
    go_wp2_with (go_at_call 71; refine (HB.out _).out.mono ?_; rintro e w1 ⟨rfl, hb1⟩)
    go_ret2
    exact ⟨rfl, below_to ((Below.refl _ _).alloc (Nat.le_refl _) _) hb1⟩
  rw [hv] at HB
  by_cases h0 : x < 0
  · rw [if_neg (by omega)]
    clear hv
    go_enter Try.func30, Try.ntmps30
    go_wp2_with (go_at_call 71; refine (HB.out _).out.mono ?_; rintro e w1 ⟨rfl, hb1⟩)
    go_ret2
    exact ⟨rfl, below_to ((Below.refl _ _).alloc (Nat.le_refl _) _) hb1⟩
  by_cases h1 : 2097152 ≤ x
  · rw [if_neg (by omega)]
    clear hv
    go_enter Try.func30, Try.ntmps30
    go_wp2_with (go_at_call 71; refine (HB.out _).out.mono ?_; rintro e w1 ⟨rfl, hb1⟩)
    go_ret2
    exact ⟨rfl, below_to ((Below.refl _ _).alloc (Nat.le_refl _) _) hb1⟩
  rw [if_pos ⟨rfl, by omega, by omega⟩]
  obtain ⟨b1, b2, b3, b4, b5, b6, b7⟩ := (bitsB_iff _ _ _).1 hv
  have hx0 : 0 ≤ x := by omega
  have hx1 : x ≤ 2097151 := by omega
  have hv7 := Lib.hid (pval_bd hv x)
  have H1 : Hid (Pure Try.prog 72 #[.int .i64 d] (.int .i64 (pw d))) := Lib.hid fun w => Two_any d b1 (by omega) w
  have H2 : Hid (Pure Try.prog 72 #[.int .i64 t] (.int .i64 (pw t))) := Lib.hid fun w => Two_any t (by omega) b4 w
  have H3 : Hid (Pure Try.prog 72 #[.int .i64 u] (.int .i64 (pw u))) := Lib.hid fun w => Two_any u b5 (by omega) w
  have p1 := pw_pos d
  have p2 := pw_pos t
  have p3 := pw_pos u
  have n1 : ¬ pw d = 0 := by omega
  have n2 : ¬ pw t = 0 := by omega
  clear b7 hv
  go_enter Try.func30, Try.ntmps30
  go_wp2_with (go_at_call 71; refine (HB.out _).out.mono ?_; rintro e w1 ⟨rfl, hb1⟩; obtain ⟨hc, hf⟩ := bcell1 hb1)
  go_quiet ((first | (go_at_call_of 72 d; exact H1.out.quiet) | (go_at_call_of 72 t; exact H2.out.quiet) | (go_at_call_of 72 u; exact H3.out.quiet)))
  have HB1 := Lib.hid hb1
  clear hb1 hc hf
  go_wp2_with fail
  go_ret2
  refine ⟨ret_pair ?_ rfl, below_drewN (below_to ((Below.refl _ _).alloc (Nat.le_refl _) _) HB1.out) _⟩
  have h2 := hv7.out
  unfold pval at h2 ⊢
  rw [Int.tmod_eq_emod_of_nonneg (Int.ediv_nonneg hx0 (by omega))]
  exact w64_id (by omega) (by omega)
end Go.Proofs.Ytdaagdohhnhbdaa
