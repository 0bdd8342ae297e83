/- umlautlaw18.PackSums: the walk. The check of any bytes. Condition: none beyond the row's own. -/
import Derived.Test.YticfbbigljgjdaaAwake18
namespace Go.Proofs.Yticfbbigljgjdaa
open Go.RowKit
set_option linter.unusedVariables false
set_option linter.unusedSimpArgs false
set_option maxRecDepth 100000 in
set_option maxHeartbeats 16000000 in
theorem PackSums_walk (A : Option Addr) (c : Nat) (l : List Int) (w : World) (hs : BytesAt A l w) (hl : l.length ≤ c) (hc : c ≤ 9223372036854775807) :
    Calls Try.prog 4 #[.slice A l.length c] w fun e w' => e = .returned (.bool true) ∧ Below w.heap.size w w' := by
  have HK : Hid (St w w (fun W => True)) := Lib.hid (St.start (fun W hW => trivial))
  have HS := Lib.hid hs
  clear hs
  go_enter Try.func4, Try.ntmps4
  by_cases hlen : 65536 < l.length
  · have h1 : (65536 : Int) < l.length := by omega
    go_wp2_with fail
    go_ret
    exact ⟨rfl, Below.refl _ _⟩
  · have h1 : decide ((65536 : Int) < l.length) = false := by rw [decide_eq_false_iff_not]; omega
    go_wp2_with (first
      | (go_at_call 12; refine (Sum_any A c l w HS.out).mono ?_; rintro e w2 ⟨rfl, rfl⟩)
      | (go_at_call 13; refine (rSum_any A c l _ HS.out).mono ?_; rintro e w2 ⟨rfl, rfl⟩)
      | (go_at_call 9; refine (awake18_st HK).mono ?_; rintro e w3 ⟨rfl, HK3⟩))
    go_ret
    exact ⟨rfl, HK3.out.2⟩
end Go.Proofs.Yticfbbigljgjdaa
