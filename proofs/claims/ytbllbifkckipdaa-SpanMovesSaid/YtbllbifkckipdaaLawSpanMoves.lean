/- umlautlaw01.SpanMoves: the walk. A set that is moved by any number is the document's. Condition: none beyond the row's own. -/
import Derived.Test.YtbllbifkckipdaaLift
namespace Go.Proofs.Ytbllbifkckipdaa
open Go.RowKit
set_option linter.unusedVariables false

set_option maxRecDepth 100000 in
set_option maxHeartbeats 16000000 in
theorem SpanMoves_walk (Al : Option Addr) (nl cl : Nat) (l : List Sp) (d : Int) (w : World) (hsl : Spans w Al nl l) (hwl : SpW l) (hnl : nl ≤ 9223372036854775807) (wd : (Lit.int .i64 d).wf = true) :
    Calls Try.prog 11 #[.slice Al nl cl, .int .i64 d] w fun e w' => e = .returned (.bool true) ∧ Below w.heap.size w w' := by
  obtain rfl := hsl.len
  have HId := i64_bd wd
  clear wd
  rcases hbig : bigB [(Al, l.length, cl)] with _ | _
  · have HBG := Lib.hid hbig
    have h3l : l.length ≤ 300 := bigB_no hbig (Al, l.length, cl) (by simp)
    have HK : Hid (St w w (fun W => Lst Al l W ∧ True)) := Lib.hid (St.start (fun W hW => ⟨⟨hsl.below hW, hwl, by omega⟩, trivial⟩))
    clear hbig hsl hnl
    obtain ⟨m, Rm⟩ := rep_move l d
    go_enter Try.func11, Try.ntmps11
    go_wp2_with fail
    refine (great_st HK [(Al, l.length, cl)] HBG.out (by simp) _).mono ?_
    rintro e w0 ⟨rfl, HK⟩
    go_wp2_with fail
    refine (Move_st HK (fun _ h => h.1) _ Rm).mono ?_
    rintro e w1 ⟨A1, c1, rfl, HK⟩
    go_wp2_with fail
    refine (rMove_st HK (fun _ h => h.2.1) (by omega) _ Rm).mono ?_
    rintro e w2 ⟨A2, c2, rfl, HK⟩
    go_wp2_with fail
    refine (Same_st HK (fun _ h => h.2.1) (fun _ h => h.1) _ _ (decide_eq_true rfl)).mono ?_
    rintro e w3 ⟨rfl, HK⟩
    go_wp2_with fail
    refine (awake01_st HK).mono ?_
    rintro e w9 ⟨rfl, HK⟩
    go_wp2_with fail
    go_ret
    exact ⟨rfl, HK.out.2⟩
  · have HBG := Lib.hid hbig
    have HK : Hid (St w w (fun W => True)) := Lib.hid (St.start (fun W hW => trivial))
    clear hbig hsl hnl
    go_enter Try.func11, Try.ntmps11
    go_wp2_with fail
    refine (great_st HK [(Al, l.length, cl)] HBG.out (by simp) _).mono ?_
    rintro e w0 ⟨rfl, HK⟩
    go_wp2_with fail
    refine (awake01_st HK).mono ?_
    rintro e w1 ⟨rfl, HK⟩
    go_wp2_with fail
    go_ret
    exact ⟨rfl, HK.out.2⟩
end Go.Proofs.Ytbllbifkckipdaa
