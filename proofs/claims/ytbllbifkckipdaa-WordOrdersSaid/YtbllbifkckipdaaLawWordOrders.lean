/- The walk of umlautlaw02.WordOrders: it returns true. Condition: none. -/
import Derived.Test.YtbllbifkckipdaaAwake02
namespace Go.Proofs.Ytbllbifkckipdaa
open Go.RowKit
set_option linter.unusedVariables false

theorem cmpW_flip (xs ys : List Int) : (cmpW xs ys = -1 ∧ cmpW ys xs = 1) ∨ (cmpW xs ys = 0 ∧ cmpW ys xs = 0) ∨ (cmpW xs ys = 1 ∧ cmpW ys xs = -1) := by
  induction xs generalizing ys with
  | nil => cases ys <;> simp [cmpW]
  | cons x xs ih =>
    cases ys with
    | nil => simp [cmpW]
    | cons y ys =>
      simp only [cmpW]
      by_cases h : x = y
      · rw [if_pos h, if_pos h.symm]; exact ih ys
      · have h' : ¬ y = x := fun e => h e.symm
        simp only [h, h', if_false]
        by_cases h2 : x < y
        · have h3 : ¬ y < x := by omega
          simp [h2, h3]
        · have h3 : y < x := by omega
          simp [h2, h3]

theorem WordOrders_long (A B : Option Addr) (n c m d : Nat) (w : World) (h : 2000 < n ∨ 2000 < m) : Gives Try.prog 4 #[.slice A n c, .slice B m d] w (.bool true) := by
  unfold Gives
  by_cases h1 : 2000 < n
  · clear h
    go_enter Try.func4, Try.ntmps4
    go_wp2_with (go_at_call 18; refine (awake02_any _).out.mono ?_; rintro e w' ⟨rfl, hb⟩)
    go_ret
    exact ⟨rfl, hb⟩
  · have h2 : 2000 < m := by omega
    clear h
    go_enter Try.func4, Try.ntmps4
    go_wp2_with (go_at_call 18; refine (awake02_any _).out.mono ?_; rintro e w' ⟨rfl, hb⟩)
    go_ret
    exact ⟨rfl, hb⟩

theorem WordOrders_walk (a0 : Option Addr) (len0 cap0 : Nat) (z0 : List Int) (a1 : Option Addr) (len1 cap1 : Nat) (z1 : List Int) (w : World) (w0 : IsRow .i32 w a0 len0 cap0 z0) (w1 : IsRow .i32 w a1 len1 cap1 z1) :
    Calls Try.prog 4 #[.slice a0 len0 cap0, .slice a1 len1 cap1] w fun e w' => e = .returned (.bool true) ∧ Below w.heap.size w w' := by
  by_cases hlong : 2000 < len0 ∨ 2000 < len1
  · exact WordOrders_long a0 a1 len0 cap0 len1 cap1 w hlong
  have h1 : ¬ 2000 < len0 := by omega
  have h2 : ¬ 2000 < len1 := by omega
  clear hlong
  have h := Lib.hid w0.ints
  have h' := Lib.hid w1.ints
  clear w0 w1
  generalize List.take len0 z0 = xs at h
  generalize List.take len1 z1 = ys at h'
  have HF := fun q => Lib.hid (Front_any a0 a1 len0 cap0 len1 cap1 xs ys (w.drewN q) h.out h'.out (by omega) (by omega))
  have HG := fun q => Lib.hid (rFront_any a0 a1 len0 cap0 len1 cap1 xs ys (w.drewN q) h.out h'.out (by omega) (by omega))
  have HC0 := Lib.hid (WCompare_any a0 a1 len0 cap0 len1 cap1 xs ys w h.out h'.out (by omega) (by omega))
  have HD := fun q => Lib.hid (rCompare_any a0 a1 len0 cap0 len1 cap1 xs ys (w.drewN q) h.out h'.out (by omega) (by omega))
  have HC := fun q => Lib.hid (WCompare_any a1 a0 len1 cap1 len0 cap0 ys xs (w.drewN q) h'.out h.out (by omega) (by omega))
  have H := Lib.hid HF; clear HF
  have H2 := Lib.hid HG; clear HG
  have H3 := Lib.hid HD; clear HD
  have H4 := Lib.hid HC; clear HC
  generalize front xs ys = p at *
  rcases cmpW_flip xs ys with ⟨e1, e2⟩ | ⟨e1, e2⟩ | ⟨e1, e2⟩
  all_goals
    rw [e1] at HC0 H3
    rw [e2] at H4
    clear e1 e2 h h'
    go_enter Try.func4, Try.ntmps4
    go_wp2_with fail
    refine HC0.out.out.mono ?_
    rintro e w1 ⟨rfl, q1, rfl⟩
    go_wp2_with fail
    refine (H3.out _).out.out.mono ?_
    rintro e w2 ⟨rfl, q2, rfl⟩
    go_wp2_with fail
    try simp only [World.drewN_drewN]
    refine (H4.out _).out.out.mono ?_
    rintro e w3 ⟨rfl, q3, rfl⟩
    go_wp2_with fail
    try simp only [World.drewN_drewN]
    refine (H3.out _).out.out.mono ?_
    rintro e w3 ⟨rfl, q4, rfl⟩
    go_wp2_with fail
    try simp only [World.drewN_drewN]
    refine (H.out _).out.out.mono ?_
    rintro e w3 ⟨rfl, q5, rfl⟩
    go_wp2_with fail
    try simp only [World.drewN_drewN]
    refine (H2.out _).out.out.mono ?_
    rintro e w3 ⟨rfl, q6, rfl⟩
    go_wp2_with (go_at_call 18; refine (awake02_any _).out.mono ?_; rintro e w' ⟨rfl, hb⟩)
    go_ret
    exact ⟨rfl, (below_drewN (Below.refl _ w) _).trans hb⟩
end Go.Proofs.Ytbllbifkckipdaa
