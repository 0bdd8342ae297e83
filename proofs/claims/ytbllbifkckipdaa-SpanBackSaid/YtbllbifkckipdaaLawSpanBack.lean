/- umlautlaw01.SpanBack: the walk. Moved there and back a set is what it was, but for what came beyond the numbers; moved by one it has the numbers behind its own. Condition: none beyond the row's own. -/
import Derived.Test.YtbllbifkckipdaaLift
namespace Go.Proofs.Ytbllbifkckipdaa
open Go.RowKit
set_option linter.unusedVariables false

set_option maxRecDepth 100000 in
set_option maxHeartbeats 16000000 in
theorem SpanBack_walk (Aa : Option Addr) (na ca : Nat) (a : List Sp) (d : Int) (x : Int) (w : World) (hsa : Spans w Aa na a) (hwa : SpW a) (hna : na ≤ 9223372036854775807) (wd : (Lit.int .i64 d).wf = true) (wx : (Lit.int .i64 x).wf = true) :
    Calls Try.prog 13 #[.slice Aa na ca, .int .i64 d, .int .i64 x] w fun e w' => e = .returned (.bool true) ∧ Below w.heap.size w w' := by
  obtain rfl := hsa.len
  have HId := i64_bd wd
  clear wd
  have HIx := i64_bd wx
  clear wx
  rcases hbig : bigB [(Aa, a.length, ca)] with _ | _
  · have HBG := Lib.hid hbig
    have h3a : a.length ≤ 300 := bigB_no hbig (Aa, a.length, ca) (by simp)
    have HK : Hid (St w w (fun W => Lst Aa a W ∧ True)) := Lib.hid (St.start (fun W hW => ⟨⟨hsa.below hW, hwa, by omega⟩, trivial⟩))
    clear hbig hsa hna
    obtain ⟨u, hu, hu0, hu1⟩ := u64_ex d
    obtain ⟨q, hq, hq0, hq1⟩ := tmod_ex u 2147483648 hu0 (by omega)
    obtain ⟨v, hv, hv0, hv1⟩ := u64_ex x
    obtain ⟨y, hy, hy0, hy1⟩ := tmod_ex v 1073741824 hv0 (by omega)
    obtain ⟨g, hg⟩ : ∃ g, q - 1073741824 = g := ⟨_, rfl⟩
    obtain ⟨k, hk⟩ : ∃ k, -g = k := ⟨_, rfl⟩
    have hgb : -1073741824 ≤ g ∧ g ≤ 1073741824 := by omega
    have hkb : -1073741824 ≤ k ∧ k ≤ 1073741824 := by omega
    obtain ⟨t, Rt⟩ := rep_move a g
    obtain ⟨rm, Rr⟩ := rep_move [(-1073741824, 1073741824)] k
    obtain ⟨bk, Rb⟩ := rep_move t k
    have Rm : Hid (Rep bk (fun x => Mem a x ∧ Mem rm x)) := Lib.hid (back_rep hk Rt.out Rr.out Rb.out)
    obtain ⟨mv, R1⟩ := rep_move a 1
    obtain ⟨b, H1, H2⟩ : ∃ b, Hid (hasB mv y = b) ∧ Hid (hasB a (y - 1) = b) := ⟨_, rfl, by unfold Hid; rw [Bool.eq_iff_iff, hasB_iff, hasB_iff, R1.out.mem]; constructor <;> grind⟩
    go_enter Try.func13, Try.ntmps13
    go_wp2_with fail
    refine (great_st HK [(Aa, a.length, ca)] HBG.out (by simp) _).mono ?_
    rintro e w0 ⟨rfl, HK⟩
    go_wp2_with fail
    refine (Move_st HK (fun _ h => h.1) _ Rt).mono ?_
    rintro e w1 ⟨A1, c1, rfl, HK⟩
    go_wp2_with fail
    have HK := St.lit HK (-1073741824, 1073741824) (by intro p hp; simp at hp; subst hp; simp)
    go_wp2_with fail
    refine (Move_st HK (fun _ h => h.1) _ Rr).mono ?_
    rintro e w2 ⟨A2, c2, rfl, HK⟩
    go_wp2_with fail
    refine (Move_st HK (fun _ h => h.2.2.1) _ Rb).mono ?_
    rintro e w3 ⟨A3, c3, rfl, HK⟩
    go_wp2_with fail
    refine (Meet_st HK (fun _ h => h.2.2.2.2.1) (fun _ h => h.2.1) _ _ Rm).mono ?_
    rintro e w4 ⟨A4, c4, rfl, HK⟩
    go_wp2_with fail
    refine (Same_st HK (fun _ h => h.2.1) (fun _ h => h.1) _ _ (decide_eq_true rfl)).mono ?_
    rintro e w5 ⟨rfl, HK⟩
    go_wp2_with fail
    refine (Move_st HK (fun _ h => h.2.2.2.2.2.1) _ R1).mono ?_
    rintro e w6 ⟨A6, c6, rfl, HK⟩
    go_wp2_with fail
    refine (Has_st HK (fun _ h => h.1) _ _ H1.out).mono ?_
    rintro e w7 ⟨rfl, HK⟩
    go_wp2_with fail
    refine (Has_st HK (fun _ h => h.2.2.2.2.2.2.1) _ _ H2.out).mono ?_
    rintro e w8 ⟨rfl, HK⟩
    go_wp2_with fail
    refine (awake01_st HK).mono ?_
    rintro e w99 ⟨rfl, HK⟩
    go_wp2_with fail
    go_ret
    exact ⟨rfl, HK.out.2⟩
  · have HBG := Lib.hid hbig
    have HK : Hid (St w w (fun W => True)) := Lib.hid (St.start (fun W hW => trivial))
    clear hbig hsa hna
    go_enter Try.func13, Try.ntmps13
    go_wp2_with fail
    refine (great_st HK [(Aa, a.length, ca)] HBG.out (by simp) _).mono ?_
    rintro e w0 ⟨rfl, HK⟩
    go_wp2_with fail
    refine (awake01_st HK).mono ?_
    rintro e w1 ⟨rfl, HK⟩
    go_wp2_with fail
    go_ret
    exact ⟨rfl, HK.out.2⟩
end Go.Proofs.Ytbllbifkckipdaa
