/- The walk of umlautlaw02.WordSorts: it returns true. Condition: none. -/
import Derived.Test.YtbllbifkckipdaaAwake02
import Derived.Test.YtbllbifkckipdaaSame
namespace Go.Proofs.Ytbllbifkckipdaa
open Go.RowKit
set_option linter.unusedVariables false
theorem WordSorts_walk (a0 : Int) (a1 : Int) (a2 : Option Addr) (len2 cap2 : Nat) (z2 : List Int) (w : World) (w0 : (Lit.int .i64 a0).wf = true) (w1 : (Lit.int .i32 a1).wf = true) (w2 : IsRow .i32 w a2 len2 cap2 z2) :
    Calls Try.prog 5 #[.int .i64 a0, .int .i32 a1, .slice a2 len2 cap2] w fun e w' => e = .returned (.bool true) ∧ Below w.heap.size w w' := by
  by_cases hlong : 2000 < len2
  · clear w0 w1 w2
    go_enter Try.func5, Try.ntmps5
    go_wp2_with (go_at_call 18; refine (awake02_any _).out.mono ?_; rintro e w' ⟨rfl, hb⟩)
    go_ret
    exact ⟨rfl, hb⟩
  have h := Lib.hid w2.ints
  clear w0 w1 w2
  generalize List.take len2 z2 = xs at h
  go_enter Try.func5, Try.ntmps5
  go_wp2_with fail
  refine (Domain_any a0 _).mono ?_
  rintro e w1 ⟨A, n, c, rfl, hA, hn, hc, hb1⟩
  have HA := Lib.hid hA; clear hA
  have h1 := Lib.hid (h.out.below hb1); clear h
  go_wp2_with fail
  refine (rDomain_any a0 _).mono ?_
  rintro e w2 ⟨B, m, d, rfl, hB, hm, hd, hb2⟩
  have HB := Lib.hid hB; clear hB
  have h2 := Lib.hid (h1.out.below hb2); clear h1
  have hb := Lib.hid (below_to hb1 hb2)
  have HA2 := Lib.hid (HA.out.below hb2)
  clear HA hb1 hb2
  go_wp2_with fail
  refine ((Same_any _ _ _ _ _ _ _ _ w2 HA2.out HB.out (by omega) (by omega)).as (v' := .bool true) (by simp)).out.mono ?_
  rintro e w3 ⟨rfl, q, rfl⟩
  go_wp2_with fail
  refine (In_any a0 a1 _).mono ?_
  rintro e w3 ⟨rfl, rfl⟩
  go_wp2_with fail
  refine (rIn_any a0 a1 _).mono ?_
  rintro e w3 ⟨rfl, rfl⟩
  generalize inB a0 a1 = b1 at *
  go_wp2_with fail
  refine (Fits_any a0 _ _ _ _ _ (h2.out.drewN _) (by omega)).mono ?_
  rintro e w3 ⟨rfl, rfl⟩
  go_wp2_with fail
  refine (rFits_any a0 _ _ _ _ _ (h2.out.drewN _) (by omega)).mono ?_
  rintro e w3 ⟨rfl, rfl⟩
  generalize xs.all (inB a0) = b2 at *
  go_wp2_with fail
  refine (awake02_any _).out.mono ?_
  rintro e w' ⟨rfl, hb3⟩
  go_wp2_with fail
  go_ret
  exact ⟨rfl, below_to (below_drewN hb.out _) hb3⟩
end Go.Proofs.Ytbllbifkckipdaa
