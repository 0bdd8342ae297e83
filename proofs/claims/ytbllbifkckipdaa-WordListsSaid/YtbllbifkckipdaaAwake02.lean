/- Contract of umlautlaw02.awake: it returns true. Condition: none. -/
import Derived.Test.YtbllbifkckipdaaOf
namespace Go.Proofs.Ytbllbifkckipdaa
open Go.RowKit
set_option linter.unusedVariables false

theorem runes_awake : runes ⟨#[97, 255, 195, 188]⟩ = [97, 65533, 252] := by decide +kernel
set_option maxHeartbeats 1000000 in
theorem awake02_any (w : World) : Gives Try.prog 18 #[] w (.bool true) := by
  have HO := Lib.hid (Of_any ⟨#[97, 255, 195, 188]⟩ w (by decide))
  unfold Gives
  go_enter Try.func18, Try.ntmps18
  go_wp2_with fail
  refine HO.out.mono ?_
  rintro e w1 ⟨A, n, c, rfl, hI, hnc, hc, hb⟩
  rw [runes_awake] at hI
  have hn : n = 3 := by have := hI.len; simpa using this.symm
  subst hn
  obtain ⟨b, off, x0, rfl, hx0, hc0⟩ := hI.at_ (j := 0) (by omega)
  obtain ⟨b', off', x1, hA1, hx1, hc1⟩ := hI.at_ (j := 1) (by omega)
  obtain ⟨b', off', x2, hA2, hx2, hc2⟩ := hI.at_ (j := 2) (by omega)
  cases hA1
  cases hA2
  simp at hx0 hx1 hx2
  rw [Nat.add_zero] at hc0
  subst hx0
  subst hx1
  subst hx2
  have HC := Lib.hid (WCompare_any _ _ 3 c 2 c _ _ w1 hI (hI.take (m := 2) (by omega)) (by omega) (by omega))
  have HI := pure_of (In_any 1 255) (v' := .bool true) (by rfl)
  have HC2 := Lib.hid (HC.out.as (v' := .int .i64 1) (by rfl))
  clear HC hI
  go_wp2_with (first | (go_at_call 22; refine HC2.out.mono ?_; rintro e w2 ⟨rfl, q, rfl⟩) | (go_at_call 29; refine (HI.out _).mono ?_; rintro e w' ⟨rfl, rfl⟩))
  go_ret
  exact ⟨rfl, below_drewN hb _⟩
end Go.Proofs.Ytbllbifkckipdaa
