/- umlautlaw01.SpanEach: the walk. A set's numbers are gone through rising, as many as are looked at; those of its plain list are the same. Condition: none beyond the row's own. -/
import Derived.Test.YtbllbifkckipdaaGone
namespace Go.Proofs.Ytbllbifkckipdaa
open Go.RowKit
set_option linter.unusedVariables false

set_option maxRecDepth 100000 in
set_option maxHeartbeats 16000000 in
theorem SpanEach_walk (Al : Option Addr) (nl cl : Nat) (l : List Sp) (d : Int) (w : World) (hsl : Spans w Al nl l) (hwl : SpW l) (hnl : nl ≤ 9223372036854775807) (wd : (Lit.int .i64 d).wf = true) :
    Calls Try.prog 12 #[.slice Al nl cl, .int .i64 d] w fun e w' => e = .returned (.bool true) ∧ Below w.heap.size w w' := by
  obtain rfl := hsl.len
  have HId := i64_bd wd
  clear wd
  rcases hbig : bigB [(Al, l.length, cl)] with _ | _
  · have HBG := Lib.hid hbig
    have h3l : l.length ≤ 300 := bigB_no hbig (Al, l.length, cl) (by simp)
    have HK : Hid (St w w (fun W => Lst Al l W ∧ True)) := Lib.hid (St.start (fun W hW => ⟨⟨hsl.below hW, hwl, by omega⟩, trivial⟩))
    clear hbig hsl hnl
    obtain ⟨u, hu, hu0, hu1⟩ := u64_ex d
    obtain ⟨q, hq, hq0, hq1⟩ := tmod_ex u 200 hu0 (by omega)
    obtain ⟨N, hN⟩ : ∃ N : Nat, 1 + q = (N : Int) := ⟨(1 + q).toNat, by omega⟩
    have hN1 : 1 ≤ N := by omega
    have hN2 : N ≤ 200 := by omega
    obtain ⟨r, RA⟩ := rep_norm l
    have hrl := RA.out.len_le
    have RS : Hid (Rep r (Mem r)) := Lib.hid (Rep.self RA.out.1)
    go_enter Try.func12, Try.ntmps12
    go_wp2_with fail
    refine (great_st HK [(Al, l.length, cl)] HBG.out (by simp) _).mono ?_
    rintro e w0 ⟨rfl, HK⟩
    go_wp2_with fail
    refine (awake01_st HK).mono ?_
    rintro e w99 ⟨rfl, HK⟩
    go_wp2_with fail
    refine (rNorm_st HK (fun _ h => h.1) (by omega) _ RA).mono ?_
    rintro e w1 ⟨A1, c1, rfl, HK⟩
    go_wp2_with fail
    refine (gone_st HK (fun _ h => h.2.1) (fun _ h => h.1) (by omega) (by omega) (by omega) _ _ RA).mono ?_
    rintro e w2 ⟨rfl, HK⟩
    go_wp2_with fail
    refine (gone_st HK (fun _ h => h.1) (fun _ h => h.1) (by omega) (by omega) (by omega) _ _ RS).mono ?_
    rintro e w3 ⟨rfl, HK⟩
    go_wp2_with fail
    refine (awake01_st HK).mono ?_
    rintro e w99 ⟨rfl, HK⟩
    go_wp2_with fail
    go_ret
    exact ⟨rfl, HK.out.2⟩
  · have HBG := Lib.hid hbig
    have HK : Hid (St w w (fun W => True)) := Lib.hid (St.start (fun W hW => trivial))
    clear hbig hsl hnl
    go_enter Try.func12, Try.ntmps12
    go_wp2_with fail
    refine (great_st HK [(Al, l.length, cl)] HBG.out (by simp) _).mono ?_
    rintro e w0 ⟨rfl, HK⟩
    go_wp2_with fail
    refine (awake01_st HK).mono ?_
    rintro e w1 ⟨rfl, HK⟩
    go_wp2_with fail
    go_ret
    exact ⟨rfl, HK.out.2⟩
end Go.Proofs.Ytbllbifkckipdaa
