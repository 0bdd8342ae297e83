/- Contracts of the packages word and umlautref02: In, Fits, Front, Compare. Condition: the slices that come in are no longer than an int can count. -/
import Derived.Test.YtbllbifkckipdaaBase
namespace Go.Proofs.Ytbllbifkckipdaa
open Go.RowKit
set_option linter.unusedVariables false

def inB (s x : Int) : Bool := if s = 1 then decide (0 ≤ x) && decide (x ≤ 255) else if s = 2 then decide (0 ≤ x) && decide (x ≤ 1114111) && (decide (x < 55296) || decide (57343 < x)) else false

theorem In_any (s x : Int) (w : World) :
    Calls Try.prog 29 #[.int .i64 s, .int .i32 x] w fun e w' => e = .returned (.bool (inB s x)) ∧ w = w' := by
  go_enter Try.func29, Try.ntmps29
  go_wp2
  all_goals (go_ret; refine ⟨ret_bool ?_, rfl⟩; simp_all [inB])
  all_goals omega
theorem rIn_any (s x : Int) (w : World) :
    Calls Try.prog 30 #[.int .i64 s, .int .i32 x] w fun e w' => e = .returned (.bool (inB s x)) ∧ w = w' := by
  go_enter Try.func30, Try.ntmps30
  go_wp2
  all_goals (go_ret; refine ⟨ret_bool ?_, rfl⟩; simp_all [inB])
  all_goals (first | omega | (rw [Bool.eq_iff_iff]; simp; omega))

theorem Fits_any (s : Int) (A : Option Addr) (n c : Nat) (xs : List Int) (w : World) (h : Ints .i32 w A n xs) (hn : n ≤ 9223372036854775807) :
    Calls Try.prog 31 #[.int .i64 s, .slice A n c] w fun e w' => e = .returned (.bool (xs.all (inB s))) ∧ w = w' := by
  have H := Lib.hid h
  clear h
  go_enter Try.func31, Try.ntmps31
  go_wp2_with fail
  go_loop [9] (fun i => ∃ k : Nat, k ≤ n ∧ i = .int .i64 k ∧ Hid ((xs.take k).all (inB s) = true)) (fun i => n - (intOf i).toNat)
  case atStart => exact ⟨0, Nat.zero_le _, rfl, rfl⟩
  case round =>
    obtain ⟨k, hk, rfl, hall⟩ := hrel
    by_cases hlt : k < n
    · obtain ⟨b, off, x, rfl, hx, hck⟩ := H.out.at_ hlt
      have HX := Lib.hid hx; clear hx
      rcases hb : inB s x with _ | _
      · have HI := pure_of (In_any s x) (congrArg Value.bool hb)
        have HB := Lib.hid hb; clear hb
        go_wp2_with (go_at_call 29; refine (HI.out _).mono ?_; rintro e w' ⟨rfl, rfl⟩)
        go_ret
        refine ⟨ret_bool ?_, rfl⟩
        symm
        rw [List.all_eq_false]
        exact ⟨x, List.mem_of_getElem? HX.out, by simp [HB.out]⟩
      · have HI := pure_of (In_any s x) (congrArg Value.bool hb)
        have HB := Lib.hid hb; clear hb
        go_wp2_with (go_at_call 29; refine (HI.out _).mono ?_; rintro e w' ⟨rfl, rfl⟩)
        go_round
        case rel => exact ⟨k + 1, by omega, by go_num, by unfold Hid; rw [take_snoc? HX.out, List.all_append, hall.out]; simp [HB.out]⟩
        case measure => simp [intOf]; omega
    · go_wp2_with fail
      go_ret
      refine ⟨ret_bool ?_, rfl⟩
      have := hall.out
      rw [List.take_of_length_le (by have := H.out.len; omega)] at this
      exact this.symm

theorem rFits_any (s : Int) (A : Option Addr) (n c : Nat) (xs : List Int) (w : World) (h : Ints .i32 w A n xs) (hn : n ≤ 9223372036854775807) :
    Calls Try.prog 32 #[.int .i64 s, .slice A n c] w fun e w' => e = .returned (.bool (xs.all (inB s))) ∧ w = w' := by
  have H := Lib.hid h
  clear h
  go_enter Try.func32, Try.ntmps32
  go_wp2_with fail
  go_loop [5] (fun i => ∃ k : Nat, k ≤ n ∧ i = .int .i64 k ∧ Hid ((xs.take k).all (inB s) = true)) (fun i => n - (intOf i).toNat)
  case atStart => exact ⟨0, Nat.zero_le _, rfl, rfl⟩
  case round =>
    obtain ⟨k, hk, rfl, hall⟩ := hrel
    by_cases hlt : k < n
    · obtain ⟨b, off, x, rfl, hx, hck⟩ := H.out.at_ hlt
      have HX := Lib.hid hx; clear hx
      rcases hb : inB s x with _ | _
      · have HI := pure_of (rIn_any s x) (congrArg Value.bool hb)
        have HB := Lib.hid hb; clear hb
        go_wp2_with (go_at_call 30; refine (HI.out _).mono ?_; rintro e w' ⟨rfl, rfl⟩)
        go_ret
        refine ⟨ret_bool ?_, rfl⟩
        symm
        rw [List.all_eq_false]
        exact ⟨x, List.mem_of_getElem? HX.out, by simp [HB.out]⟩
      · have HI := pure_of (rIn_any s x) (congrArg Value.bool hb)
        have HB := Lib.hid hb; clear hb
        go_wp2_with (go_at_call 30; refine (HI.out _).mono ?_; rintro e w' ⟨rfl, rfl⟩)
        go_round
        case rel => exact ⟨k + 1, by omega, by go_num, by unfold Hid; rw [take_snoc? HX.out, List.all_append, hall.out]; simp [HB.out]⟩
        case measure => simp [intOf]; omega
    · go_wp2_with fail
      go_ret
      refine ⟨ret_bool ?_, rfl⟩
      have := hall.out
      rw [List.take_of_length_le (by have := H.out.len; omega)] at this
      exact this.symm
end Go.Proofs.Ytbllbifkckipdaa
