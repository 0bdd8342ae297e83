/- umlautlaw01.SpanAsks: the walk. Of any set and number: whether it is in it, how many there are, the least, the greatest, the one at any place. Condition: none beyond the row's own. -/
import Derived.Test.YtbllbifkckipdaaLift
namespace Go.Proofs.Ytbllbifkckipdaa
open Go.RowKit
set_option linter.unusedVariables false

set_option maxRecDepth 100000 in
set_option maxHeartbeats 16000000 in
theorem SpanAsks_walk (Al : Option Addr) (nl cl : Nat) (l : List Sp) (x : Int) (i : Int) (w : World) (hsl : Spans w Al nl l) (hwl : SpW l) (hnl : nl ≤ 9223372036854775807) (wx : (Lit.int .i64 x).wf = true) (wi : (Lit.int .i64 i).wf = true) :
    Calls Try.prog 16 #[.slice Al nl cl, .int .i64 x, .int .i64 i] w fun e w' => e = .returned (.bool true) ∧ Below w.heap.size w w' := by
  obtain rfl := hsl.len
  have HIx := i64_bd wx
  clear wx
  have HIi := i64_bd wi
  clear wi
  rcases hbig : bigB [(Al, l.length, cl)] with _ | _
  · have HBG := Lib.hid hbig
    have h3l : l.length ≤ 300 := bigB_no hbig (Al, l.length, cl) (by simp)
    have HK : Hid (St w w (fun W => Lst Al l W ∧ True)) := Lib.hid (St.start (fun W hW => ⟨⟨hsl.below hW, hwl, by omega⟩, trivial⟩))
    clear hbig hsl hnl
    obtain ⟨r, RA⟩ := rep_norm l
    have hcb := RA.out.1.cnt_bd
    obtain ⟨x0, x1, s, Hx0, Hs0, Hx1, Hs1, Hpos⟩ : ∃ x0 x1 s, Hid (optD (nthS r 0) = x0) ∧ Hid (optB (nthS r 0) = s) ∧ Hid (optD (nthS r (cnt r - 1)) = x1) ∧ Hid (optB (nthS r (cnt r - 1)) = s) ∧ Hid (decide (0 < cnt r) = s) := asks_ex RA.out.1
    have Hy0 : Hid (optD (nthI r 0) = x0) := Hx0
    have Hz0 : Hid (optB (nthI r 0) = s) := Hs0
    have Hy1 : Hid (optD (nthI r (cnt r - 1)) = x1) := by unfold Hid; rw [nthI_last RA.out.1]; exact Hx1.out
    have Hz1 : Hid (optB (nthI r (cnt r - 1)) = s) := by unfold Hid; rw [nthI_last RA.out.1]; exact Hs1.out
    have hpos := Hpos.out
    go_enter Try.func16, Try.ntmps16
    go_wp2_with fail
    refine (great_st HK [(Al, l.length, cl)] HBG.out (by simp) _).mono ?_
    rintro e w0 ⟨rfl, HK⟩
    go_wp2_with fail
    refine (rCount_st HK (fun _ h => h.1) (by omega) _ RA).mono ?_
    rintro e w1 ⟨rfl, HK⟩
    go_wp2_with fail
    refine (First_st HK (fun _ h => h.1) _ RA Hx0.out Hs0.out).mono ?_
    rintro e w2 ⟨rfl, HK⟩
    go_wp2_with fail
    refine (Last_st HK (fun _ h => h.1) _ RA Hx1.out Hs1.out).mono ?_
    rintro e w3 ⟨rfl, HK⟩
    go_wp2_with fail
    refine (At_st HK (fun _ h => h.1) _ RA (by omega) rfl rfl).mono ?_
    rintro e w4 ⟨rfl, HK⟩
    go_wp2_with fail
    refine (rAt_st HK (fun _ h => h.1) (by omega) _ RA (by omega) rfl rfl).mono ?_
    rintro e w5 ⟨rfl, HK⟩
    go_wp2_with fail
    refine (rAt_st HK (fun _ h => h.1) (by omega) _ RA (by omega) Hy0.out Hz0.out).mono ?_
    rintro e w6 ⟨rfl, HK⟩
    go_wp2_with fail
    refine (rAt_st HK (fun _ h => h.1) (by omega) _ RA (by omega) Hy1.out Hz1.out).mono ?_
    rintro e w7 ⟨rfl, HK⟩
    go_wp2_with fail
    refine (Has_st HK (fun _ h => h.1) _ _ rfl).mono ?_
    rintro e w8 ⟨rfl, HK⟩
    go_wp2_with fail
    refine (rHas_st HK (fun _ h => h.1) _ _ rfl).mono ?_
    rintro e w9 ⟨rfl, HK⟩
    go_wp2_with fail
    refine (Count_st HK (fun _ h => h.1) _ RA).mono ?_
    rintro e w10 ⟨rfl, HK⟩
    go_wp2_with fail
    refine (awake01_st HK).mono ?_
    rintro e w99 ⟨rfl, HK⟩
    go_wp2_with fail
    go_ret
    exact ⟨rfl, HK.out.2⟩
  · have HBG := Lib.hid hbig
    have HK : Hid (St w w (fun W => True)) := Lib.hid (St.start (fun W hW => trivial))
    clear hbig hsl hnl
    go_enter Try.func16, Try.ntmps16
    go_wp2_with fail
    refine (great_st HK [(Al, l.length, cl)] HBG.out (by simp) _).mono ?_
    rintro e w0 ⟨rfl, HK⟩
    go_wp2_with fail
    refine (awake01_st HK).mono ?_
    rintro e w1 ⟨rfl, HK⟩
    go_wp2_with fail
    go_ret
    exact ⟨rfl, HK.out.2⟩
end Go.Proofs.Ytbllbifkckipdaa
