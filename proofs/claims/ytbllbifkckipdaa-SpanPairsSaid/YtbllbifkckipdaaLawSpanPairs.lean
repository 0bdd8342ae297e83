/- umlautlaw01.SpanPairs: the walk. Of any two sets the union, what they have in common, what the first has alone are the document's. Condition: none beyond the row's own. -/
import Derived.Test.YtbllbifkckipdaaLift
namespace Go.Proofs.Ytbllbifkckipdaa
open Go.RowKit
set_option linter.unusedVariables false

set_option maxRecDepth 100000 in
set_option maxHeartbeats 16000000 in
theorem SpanPairs_walk (Aa : Option Addr) (na ca : Nat) (a : List Sp) (Ab : Option Addr) (nb cb : Nat) (b : List Sp) (w : World) (hsa : Spans w Aa na a) (hwa : SpW a) (hna : na ≤ 9223372036854775807) (hsb : Spans w Ab nb b) (hwb : SpW b) (hnb : nb ≤ 9223372036854775807) :
    Calls Try.prog 15 #[.slice Aa na ca, .slice Ab nb cb] w fun e w' => e = .returned (.bool true) ∧ Below w.heap.size w w' := by
  obtain rfl := hsa.len
  obtain rfl := hsb.len
  rcases hbig : bigB [(Aa, a.length, ca), (Ab, b.length, cb)] with _ | _
  · have HBG := Lib.hid hbig
    have h3a : a.length ≤ 300 := bigB_no hbig (Aa, a.length, ca) (by simp)
    have h3b : b.length ≤ 300 := bigB_no hbig (Ab, b.length, cb) (by simp)
    have HK : Hid (St w w (fun W => Lst Aa a W ∧ Lst Ab b W ∧ True)) := Lib.hid (St.start (fun W hW => ⟨⟨hsa.below hW, hwa, by omega⟩, ⟨hsb.below hW, hwb, by omega⟩, trivial⟩))
    clear hbig hsa hna hsb hnb
    obtain ⟨m, Rm⟩ := rep_meet a b
    obtain ⟨dd, Rd⟩ := rep_minus a b
    obtain ⟨u, Ru⟩ := rep_union a b
    obtain ⟨vd, Hd1, Hd2⟩ : ∃ v, Hid (decide (dd = []) = v) ∧ Hid (((dd.length : Int) == 0) = v) := ⟨_, rfl, by unfold Hid; cases dd <;> simp; omega⟩
    obtain ⟨vm, Hm1, Hm2⟩ : ∃ v, Hid ((!decide (m = [])) = v) ∧ Hid (decide (0 < m.length) = v) := ⟨_, rfl, by unfold Hid; cases m <;> simp⟩
    go_enter Try.func15, Try.ntmps15
    go_wp2_with fail
    refine (great_st HK [(Aa, a.length, ca), (Ab, b.length, cb)] HBG.out (by simp) _).mono ?_
    rintro e w0 ⟨rfl, HK⟩
    go_wp2_with fail
    refine (copied_st HK (fun _ h => h.1) _ ).mono ?_
    rintro e w1 ⟨A1, c1, rfl, HK⟩
    go_wp2_with fail
    refine (copied_st HK (fun _ h => h.2.2.1) _ ).mono ?_
    rintro e w2 ⟨A2, c2, rfl, HK⟩
    go_wp2_with fail
    refine (rMeet_st HK (fun _ h => h.2.1) (fun _ h => h.1) (by omega) (by omega) _ _ Rm).mono ?_
    rintro e w3 ⟨A3, c3, rfl, HK⟩
    go_wp2_with fail
    refine (rLess_st HK (fun _ h => h.2.2.1) (fun _ h => h.2.1) (by omega) (by omega) _ _ Rd).mono ?_
    rintro e w4 ⟨A4, c4, rfl, HK⟩
    go_wp2_with fail
    refine (Union_st HK (fun _ h => h.2.2.2.2.1) (fun _ h => h.2.2.2.2.2.1) _ _ Ru).mono ?_
    rintro e w5 ⟨A5, c5, rfl, HK⟩
    go_wp2_with fail
    refine (rBoth_st HK (fun _ h => h.2.2.2.2.1) (fun _ h => h.2.2.2.1) (by omega) (by omega) _ _ Ru).mono ?_
    rintro e w6 ⟨A6, c6, rfl, HK⟩
    go_wp2_with fail
    refine (Same_st HK (fun _ h => h.2.1) (fun _ h => h.1) _ _ (decide_eq_true rfl)).mono ?_
    rintro e w7 ⟨rfl, HK⟩
    go_wp2_with fail
    refine (Meet_st HK (fun _ h => h.2.2.2.2.2.2.1) (fun _ h => h.2.2.2.2.2.2.2.1) _ _ Rm).mono ?_
    rintro e w8 ⟨A8, c8, rfl, HK⟩
    go_wp2_with fail
    refine (Same_st HK (fun _ h => h.1) (fun _ h => h.2.2.2.2.1) _ _ (decide_eq_true rfl)).mono ?_
    rintro e w9 ⟨rfl, HK⟩
    go_wp2_with fail
    refine (Minus_st HK (fun _ h => h.2.2.2.2.2.2.2.1) (fun _ h => h.2.2.2.2.2.2.2.2.1) _ _ Rd).mono ?_
    rintro e w10 ⟨A10, c10, rfl, HK⟩
    go_wp2_with fail
    refine (Same_st HK (fun _ h => h.1) (fun _ h => h.2.2.2.2.1) _ _ (decide_eq_true rfl)).mono ?_
    rintro e w11 ⟨rfl, HK⟩
    go_wp2_with fail
    refine (Within_st HK (fun _ h => h.2.2.2.2.2.2.2.2.1) (fun _ h => h.2.2.2.2.2.2.2.2.2.1) _ _ Rd Hd1.out).mono ?_
    rintro e w12 ⟨rfl, HK⟩
    have hd2 := Hd2.out
    go_wp2_with fail
    refine (Meets_st HK (fun _ h => h.2.2.2.2.2.2.2.2.1) (fun _ h => h.2.2.2.2.2.2.2.2.2.1) _ _ Rm Hm1.out).mono ?_
    rintro e w13 ⟨rfl, HK⟩
    clear hd2
    have hm2 := Hm2.out
    go_wp2_with fail
    refine (Same_st HK (fun _ h => h.2.2.2.2.2.2.2.2.1) (fun _ h => h.2.2.2.2.2.2.2.1) _ _ (decide_eq_true rfl)).mono ?_
    rintro e w14 ⟨rfl, HK⟩
    go_wp2_with fail
    refine (Same_st HK (fun _ h => h.2.2.2.2.2.2.2.2.2.1) (fun _ h => h.2.2.2.2.2.2.1) _ _ (decide_eq_true rfl)).mono ?_
    rintro e w15 ⟨rfl, HK⟩
    go_wp2_with fail
    refine (awake01_st HK).mono ?_
    rintro e w99 ⟨rfl, HK⟩
    go_wp2_with fail
    go_ret
    exact ⟨rfl, HK.out.2⟩
  · have HBG := Lib.hid hbig
    have HK : Hid (St w w (fun W => True)) := Lib.hid (St.start (fun W hW => trivial))
    clear hbig hsa hna hsb hnb
    go_enter Try.func15, Try.ntmps15
    go_wp2_with fail
    refine (great_st HK [(Aa, a.length, ca), (Ab, b.length, cb)] HBG.out (by simp) _).mono ?_
    rintro e w0 ⟨rfl, HK⟩
    go_wp2_with fail
    refine (awake01_st HK).mono ?_
    rintro e w1 ⟨rfl, HK⟩
    go_wp2_with fail
    go_ret
    exact ⟨rfl, HK.out.2⟩
end Go.Proofs.Ytbllbifkckipdaa
