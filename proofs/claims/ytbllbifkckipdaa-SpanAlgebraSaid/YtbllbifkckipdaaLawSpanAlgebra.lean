/- umlautlaw01.SpanAlgebra: the walk. Union and what is in common go over one another; what lies outside of both lies outside of their union. Condition: none beyond the row's own. -/
import Derived.Test.YtbllbifkckipdaaLift
namespace Go.Proofs.Ytbllbifkckipdaa
open Go.RowKit
set_option linter.unusedVariables false

set_option maxRecDepth 100000 in
set_option maxHeartbeats 16000000 in
theorem SpanAlgebra_walk (Aa : Option Addr) (na ca : Nat) (a : List Sp) (Ab : Option Addr) (nb cb : Nat) (b : List Sp) (Ac : Option Addr) (nc cc : Nat) (c : List Sp) (w : World) (hsa : Spans w Aa na a) (hwa : SpW a) (hna : na ≤ 9223372036854775807) (hsb : Spans w Ab nb b) (hwb : SpW b) (hnb : nb ≤ 9223372036854775807) (hsc : Spans w Ac nc c) (hwc : SpW c) (hnc : nc ≤ 9223372036854775807) :
    Calls Try.prog 14 #[.slice Aa na ca, .slice Ab nb cb, .slice Ac nc cc] w fun e w' => e = .returned (.bool true) ∧ Below w.heap.size w w' := by
  obtain rfl := hsa.len
  obtain rfl := hsb.len
  obtain rfl := hsc.len
  rcases hbig : bigB [(Aa, a.length, ca), (Ab, b.length, cb), (Ac, c.length, cc)] with _ | _
  · have HBG := Lib.hid hbig
    have h3a : a.length ≤ 300 := bigB_no hbig (Aa, a.length, ca) (by simp)
    have h3b : b.length ≤ 300 := bigB_no hbig (Ab, b.length, cb) (by simp)
    have h3c : c.length ≤ 300 := bigB_no hbig (Ac, c.length, cc) (by simp)
    have HK : Hid (St w w (fun W => Lst Aa a W ∧ Lst Ab b W ∧ Lst Ac c W ∧ True)) := Lib.hid (St.start (fun W hW => ⟨⟨hsa.below hW, hwa, by omega⟩, ⟨hsb.below hW, hwb, by omega⟩, ⟨hsc.below hW, hwc, by omega⟩, trivial⟩))
    clear hbig hsa hna hsb hnb hsc hnc
    obtain ⟨ab, Rab⟩ := rep_union a b
    have Rba : Hid (Rep ab (fun x => Mem b x ∨ Mem a x)) := Lib.hid (Rab.out.congr fun x => by skip; grind)
    obtain ⟨mab, Mab⟩ := rep_meet a b
    have Mba : Hid (Rep mab (fun x => Mem b x ∧ Mem a x)) := Lib.hid (Mab.out.congr fun x => by skip; grind)
    obtain ⟨bc, Rbc⟩ := rep_union b c
    obtain ⟨ac, Rac⟩ := rep_union a c
    obtain ⟨mac, Mac⟩ := rep_meet a c
    obtain ⟨mbc, Mbc⟩ := rep_meet b c
    obtain ⟨d, D1⟩ := rep_meet a bc
    have D2 : Hid (Rep d (fun x => Mem mab x ∨ Mem mac x)) := Lib.hid (D1.out.congr fun x => by have q0 := Rbc.out.mem x; have q1 := Mab.out.mem x; have q2 := Mac.out.mem x; grind)
    obtain ⟨e1, E1⟩ := rep_union a mbc
    have E2 : Hid (Rep e1 (fun x => Mem ab x ∧ Mem ac x)) := Lib.hid (E1.out.congr fun x => by have q0 := Mbc.out.mem x; have q1 := Rab.out.mem x; have q2 := Rac.out.mem x; grind)
    obtain ⟨na, Na⟩ := rep_minus [(-1073741824, 1073741824)] a
    obtain ⟨nb, Nb⟩ := rep_minus [(-1073741824, 1073741824)] b
    obtain ⟨g, G1⟩ := rep_minus [(-1073741824, 1073741824)] ab
    have G2 : Hid (Rep g (fun x => Mem na x ∧ Mem nb x)) := Lib.hid (G1.out.congr fun x => by have q0 := Rab.out.mem x; have q1 := Na.out.mem x; have q2 := Nb.out.mem x; grind)
    obtain ⟨ra, RA⟩ := rep_norm a
    have H1 : Hid (Rep ra (fun x => Mem [(-1073741824, 1073741824)] x ∧ ¬ Mem na x)) := Lib.hid (RA.out.congr fun x => by have q0 := Na.out.mem x; have q1 := @Mem.bound a x; have q2 := mem_all x; grind)
    go_enter Try.func14, Try.ntmps14
    go_wp2_with fail
    refine (great_st HK [(Aa, a.length, ca), (Ab, b.length, cb), (Ac, c.length, cc)] HBG.out (by simp) _).mono ?_
    rintro e w0 ⟨rfl, HK⟩
    go_wp2_with fail
    have HK := St.lit HK (-1073741824, 1073741824) (by intro p hp; simp at hp; subst hp; simp)
    go_wp2_with fail
    refine (Union_st HK (fun _ h => h.2.1) (fun _ h => h.2.2.1) _ _ Rab).mono ?_
    rintro e w1 ⟨A1, c1, rfl, HK⟩
    go_wp2_with fail
    refine (Union_st HK (fun _ h => h.2.2.2.1) (fun _ h => h.2.2.1) _ _ Rba).mono ?_
    rintro e w2 ⟨A2, c2, rfl, HK⟩
    go_wp2_with fail
    refine (Same_st HK (fun _ h => h.2.1) (fun _ h => h.1) _ _ (decide_eq_true rfl)).mono ?_
    rintro e w3 ⟨rfl, HK⟩
    go_wp2_with fail
    refine (Meet_st HK (fun _ h => h.2.2.2.1) (fun _ h => h.2.2.2.2.1) _ _ Mab).mono ?_
    rintro e w4 ⟨A4, c4, rfl, HK⟩
    go_wp2_with fail
    refine (Meet_st HK (fun _ h => h.2.2.2.2.2.1) (fun _ h => h.2.2.2.2.1) _ _ Mba).mono ?_
    rintro e w5 ⟨A5, c5, rfl, HK⟩
    go_wp2_with fail
    refine (Same_st HK (fun _ h => h.2.1) (fun _ h => h.1) _ _ (decide_eq_true rfl)).mono ?_
    rintro e w6 ⟨rfl, HK⟩
    go_wp2_with fail
    refine (Union_st HK (fun _ h => h.2.2.2.2.2.2.1) (fun _ h => h.2.2.2.2.2.2.2.1) _ _ Rbc).mono ?_
    rintro e w7 ⟨A7, c7, rfl, HK⟩
    go_wp2_with fail
    refine (Meet_st HK (fun _ h => h.2.2.2.2.2.2.1) (fun _ h => h.1) _ _ D1).mono ?_
    rintro e w8 ⟨A8, c8, rfl, HK⟩
    go_wp2_with fail
    refine (Meet_st HK (fun _ h => h.2.2.2.2.2.2.2.1) (fun _ h => h.2.2.2.2.2.2.2.2.1) _ _ Mab).mono ?_
    rintro e w9 ⟨A9, c9, rfl, HK⟩
    go_wp2_with fail
    refine (Meet_st HK (fun _ h => h.2.2.2.2.2.2.2.2.1) (fun _ h => h.2.2.2.2.2.2.2.2.2.2.1) _ _ Mac).mono ?_
    rintro e w10 ⟨A10, c10, rfl, HK⟩
    go_wp2_with fail
    refine (Union_st HK (fun _ h => h.2.1) (fun _ h => h.1) _ _ D2).mono ?_
    rintro e w11 ⟨A11, c11, rfl, HK⟩
    go_wp2_with fail
    refine (Same_st HK (fun _ h => h.2.2.2.1) (fun _ h => h.1) _ _ (decide_eq_true rfl)).mono ?_
    rintro e w12 ⟨rfl, HK⟩
    go_wp2_with fail
    refine (Meet_st HK (fun _ h => h.2.2.2.2.2.2.2.2.2.2.2.1) (fun _ h => h.2.2.2.2.2.2.2.2.2.2.2.2.1) _ _ Mbc).mono ?_
    rintro e w13 ⟨A13, c13, rfl, HK⟩
    go_wp2_with fail
    refine (Union_st HK (fun _ h => h.2.2.2.2.2.2.2.2.2.2.2.1) (fun _ h => h.1) _ _ E1).mono ?_
    rintro e w14 ⟨A14, c14, rfl, HK⟩
    go_wp2_with fail
    refine (Union_st HK (fun _ h => h.2.2.2.2.2.2.2.2.2.2.2.2.1) (fun _ h => h.2.2.2.2.2.2.2.2.2.2.2.2.2.1) _ _ Rab).mono ?_
    rintro e w15 ⟨A15, c15, rfl, HK⟩
    go_wp2_with fail
    refine (Union_st HK (fun _ h => h.2.2.2.2.2.2.2.2.2.2.2.2.2.1) (fun _ h => h.2.2.2.2.2.2.2.2.2.2.2.2.2.2.2.1) _ _ Rac).mono ?_
    rintro e w16 ⟨A16, c16, rfl, HK⟩
    go_wp2_with fail
    refine (Meet_st HK (fun _ h => h.2.1) (fun _ h => h.1) _ _ E2).mono ?_
    rintro e w17 ⟨A17, c17, rfl, HK⟩
    go_wp2_with fail
    refine (Same_st HK (fun _ h => h.2.2.2.1) (fun _ h => h.1) _ _ (decide_eq_true rfl)).mono ?_
    rintro e w18 ⟨rfl, HK⟩
    go_wp2_with fail
    refine (Union_st HK (fun _ h => h.2.2.2.2.2.2.2.2.2.2.2.2.2.2.2.1) (fun _ h => h.2.2.2.2.2.2.2.2.2.2.2.2.2.2.2.2.1) _ _ Rab).mono ?_
    rintro e w19 ⟨A19, c19, rfl, HK⟩
    go_wp2_with fail
    refine (Minus_st HK (fun _ h => h.2.2.2.2.2.2.2.2.2.2.2.2.2.2.2.1) (fun _ h => h.1) _ _ G1).mono ?_
    rintro e w20 ⟨A20, c20, rfl, HK⟩
    go_wp2_with fail
    refine (Minus_st HK (fun _ h => h.2.2.2.2.2.2.2.2.2.2.2.2.2.2.2.2.1) (fun _ h => h.2.2.2.2.2.2.2.2.2.2.2.2.2.2.2.2.2.1) _ _ Na).mono ?_
    rintro e w21 ⟨A21, c21, rfl, HK⟩
    go_wp2_with fail
    refine (Minus_st HK (fun _ h => h.2.2.2.2.2.2.2.2.2.2.2.2.2.2.2.2.2.1) (fun _ h => h.2.2.2.2.2.2.2.2.2.2.2.2.2.2.2.2.2.2.2.1) _ _ Nb).mono ?_
    rintro e w22 ⟨A22, c22, rfl, HK⟩
    go_wp2_with fail
    refine (Meet_st HK (fun _ h => h.2.1) (fun _ h => h.1) _ _ G2).mono ?_
    rintro e w23 ⟨A23, c23, rfl, HK⟩
    go_wp2_with fail
    refine (Same_st HK (fun _ h => h.2.2.2.1) (fun _ h => h.1) _ _ (decide_eq_true rfl)).mono ?_
    rintro e w24 ⟨rfl, HK⟩
    go_wp2_with fail
    refine (Minus_st HK (fun _ h => h.2.2.2.2.2.2.2.2.2.2.2.2.2.2.2.2.2.2.2.1) (fun _ h => h.2.2.2.2.2.2.2.2.2.2.2.2.2.2.2.2.2.2.2.2.1) _ _ Na).mono ?_
    rintro e w25 ⟨A25, c25, rfl, HK⟩
    go_wp2_with fail
    refine (Minus_st HK (fun _ h => h.2.2.2.2.2.2.2.2.2.2.2.2.2.2.2.2.2.2.2.2.1) (fun _ h => h.1) _ _ H1).mono ?_
    rintro e w26 ⟨A26, c26, rfl, HK⟩
    go_wp2_with fail
    refine (Norm_st HK (fun _ h => h.2.2.2.2.2.2.2.2.2.2.2.2.2.2.2.2.2.2.2.2.2.2.1) _ RA).mono ?_
    rintro e w27 ⟨A27, c27, rfl, HK⟩
    go_wp2_with fail
    refine (Same_st HK (fun _ h => h.2.1) (fun _ h => h.1) _ _ (decide_eq_true rfl)).mono ?_
    rintro e w28 ⟨rfl, HK⟩
    go_wp2_with fail
    refine (awake01_st HK).mono ?_
    rintro e w99 ⟨rfl, HK⟩
    go_wp2_with fail
    go_ret
    exact ⟨rfl, HK.out.2⟩
  · have HBG := Lib.hid hbig
    have HK : Hid (St w w (fun W => True)) := Lib.hid (St.start (fun W hW => trivial))
    clear hbig hsa hna hsb hnb hsc hnc
    go_enter Try.func14, Try.ntmps14
    go_wp2_with fail
    refine (great_st HK [(Aa, a.length, ca), (Ab, b.length, cb), (Ac, c.length, cc)] HBG.out (by simp) _).mono ?_
    rintro e w0 ⟨rfl, HK⟩
    go_wp2_with fail
    refine (awake01_st HK).mono ?_
    rintro e w1 ⟨rfl, HK⟩
    go_wp2_with fail
    go_ret
    exact ⟨rfl, HK.out.2⟩
end Go.Proofs.Ytbllbifkckipdaa
