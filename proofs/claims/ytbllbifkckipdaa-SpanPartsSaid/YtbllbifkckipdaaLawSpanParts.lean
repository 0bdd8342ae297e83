/- umlautlaw01.SpanParts: the walk. What two sets have in common and what the first has alone. Condition: none beyond the row's own. -/
import Derived.Test.YtbllbifkckipdaaLift
namespace Go.Proofs.Ytbllbifkckipdaa
open Go.RowKit
set_option linter.unusedVariables false

set_option maxRecDepth 100000 in
set_option maxHeartbeats 16000000 in
theorem SpanParts_walk (Aa : Option Addr) (na ca : Nat) (a : List Sp) (Ab : Option Addr) (nb cb : Nat) (b : List Sp) (x : Int) (w : World) (hsa : Spans w Aa na a) (hwa : SpW a) (hna : na ≤ 9223372036854775807) (hsb : Spans w Ab nb b) (hwb : SpW b) (hnb : nb ≤ 9223372036854775807) (wx : (Lit.int .i64 x).wf = true) :
    Calls Try.prog 17 #[.slice Aa na ca, .slice Ab nb cb, .int .i64 x] w fun e w' => e = .returned (.bool true) ∧ Below w.heap.size w w' := by
  obtain rfl := hsa.len
  obtain rfl := hsb.len
  have HIx := i64_bd wx
  clear wx
  rcases hbig : bigB [(Aa, a.length, ca), (Ab, b.length, cb)] with _ | _
  · have HBG := Lib.hid hbig
    have h3a : a.length ≤ 300 := bigB_no hbig (Aa, a.length, ca) (by simp)
    have h3b : b.length ≤ 300 := bigB_no hbig (Ab, b.length, cb) (by simp)
    have HK : Hid (St w w (fun W => Lst Aa a W ∧ Lst Ab b W ∧ True)) := Lib.hid (St.start (fun W hW => ⟨⟨hsa.below hW, hwa, by omega⟩, ⟨hsb.below hW, hwb, by omega⟩, trivial⟩))
    clear hbig hsa hna hsb hnb
    obtain ⟨m, Rm⟩ := rep_meet a b
    obtain ⟨d, Rd⟩ := rep_minus a b
    obtain ⟨ra, RA⟩ := rep_norm a
    have Ru : Hid (Rep ra (fun x => Mem m x ∨ Mem d x)) := Lib.hid (RA.out.congr fun x => by have q0 := Rm.out.mem x; have q1 := Rd.out.mem x; grind)
    have Rz : Hid (Rep [] (fun x => Mem m x ∧ Mem d x)) := Lib.hid ⟨trivial, fun x => by have q0 := Rm.out.mem x; have q1 := Rd.out.mem x; simp only [InS, false_iff]; grind⟩
    have Rw : Hid (Rep [] (fun x => Mem m x ∧ ¬ Mem b x)) := Lib.hid ⟨trivial, fun x => by have q0 := Rm.out.mem x; simp only [InS, false_iff]; grind⟩
    have Rv : Hid (Rep [] (fun x => Mem d x ∧ Mem b x)) := Lib.hid ⟨trivial, fun x => by have q0 := Rd.out.mem x; simp only [InS, false_iff]; grind⟩
    have Sm : Hid (Rep m (Mem m)) := Lib.hid (Rep.self Rm.out.1)
    have Sd : Hid (Rep d (Mem d)) := Lib.hid (Rep.self Rd.out.1)
    have hb1 := Rm.out.1.cnt_bd
    have hb2 := Rd.out.1.cnt_bd
    have hsum : (cnt m + cnt d == cnt ra) = true := by rw [beq_iff_eq]; exact cnt_parts Ru.out Sm.out Sd.out fun x h1 h2 => ((Rd.out.mem x).1 h2).2 ((Rm.out.mem x).1 h1).2
    obtain ⟨gm, gd, ga⟩ | ⟨gm, gd, ga⟩ | ⟨gm, gd, ga⟩ : (hasB m x = true ∧ hasB d x = false ∧ hasB a x = true) ∨ (hasB m x = false ∧ hasB d x = true ∧ hasB a x = true) ∨ (hasB m x = false ∧ hasB d x = false ∧ hasB a x = false) := by
      have q0 := Rm.out.mem x; have q1 := Rd.out.mem x
      simp only [← Bool.not_eq_true, hasB_iff]; grind
    · have Hm : Hid (hasB m x = true) := Lib.hid gm
      have Hd : Hid (hasB d x = false) := Lib.hid gd
      have Ha : Hid (hasB a x = true) := Lib.hid ga
      clear gm gd ga
      go_enter Try.func17, Try.ntmps17
      go_wp2_with fail
      refine (great_st HK [(Aa, a.length, ca), (Ab, b.length, cb)] HBG.out (by simp) _).mono ?_
      rintro e w0 ⟨rfl, HK⟩
      go_wp2_with fail
      refine (Meet_st HK (fun _ h => h.1) (fun _ h => h.2.1) _ _ Rm).mono ?_
      rintro e w1 ⟨A1, c1, rfl, HK⟩
      go_wp2_with fail
      refine (Minus_st HK (fun _ h => h.2.1) (fun _ h => h.2.2.1) _ _ Rd).mono ?_
      rintro e w2 ⟨A2, c2, rfl, HK⟩
      go_wp2_with fail
      refine (Union_st HK (fun _ h => h.2.1) (fun _ h => h.1) _ _ Ru).mono ?_
      rintro e w3 ⟨A3, c3, rfl, HK⟩
      go_wp2_with fail
      refine (Norm_st HK (fun _ h => h.2.2.2.1) _ RA).mono ?_
      rintro e w4 ⟨A4, c4, rfl, HK⟩
      go_wp2_with fail
      refine (Same_st HK (fun _ h => h.2.1) (fun _ h => h.1) _ _ (decide_eq_true rfl)).mono ?_
      rintro e w5 ⟨rfl, HK⟩
      go_wp2_with fail
      refine (Meets_st HK (fun _ h => h.2.2.2.1) (fun _ h => h.2.2.1) _ _ Rz rfl).mono ?_
      rintro e w6 ⟨rfl, HK⟩
      go_wp2_with fail
      refine (Count_st HK (fun _ h => h.2.2.2.1) _ Sm).mono ?_
      rintro e w7 ⟨rfl, HK⟩
      go_wp2_with fail
      refine (Count_st HK (fun _ h => h.2.2.1) _ Sd).mono ?_
      rintro e w8 ⟨rfl, HK⟩
      go_wp2_with fail
      refine (Count_st HK (fun _ h => h.2.2.2.2.1) _ RA).mono ?_
      rintro e w9 ⟨rfl, HK⟩
      go_wp2_with fail
      refine (Has_st HK (fun _ h => h.2.2.2.1) _ _ Hm.out).mono ?_
      rintro e w10 ⟨rfl, HK⟩
      go_wp2_with fail
      refine (Has_st HK (fun _ h => h.2.2.2.2.1) _ _ Ha.out).mono ?_
      rintro e w11 ⟨rfl, HK⟩
      go_wp2_with fail
      refine (Has_st HK (fun _ h => h.2.2.2.1) _ _ Hm.out).mono ?_
      rintro e w12 ⟨rfl, HK⟩
      go_wp2_with fail
      refine (Has_st HK (fun _ h => h.2.2.1) _ _ Hd.out).mono ?_
      rintro e w13 ⟨rfl, HK⟩
      go_wp2_with fail
      refine (Within_st HK (fun _ h => h.2.2.2.1) (fun _ h => h.2.2.2.2.2.1) _ _ Rw rfl).mono ?_
      rintro e w14 ⟨rfl, HK⟩
      go_wp2_with fail
      refine (Meets_st HK (fun _ h => h.2.2.1) (fun _ h => h.2.2.2.2.2.1) _ _ Rv rfl).mono ?_
      rintro e w15 ⟨rfl, HK⟩
      go_wp2_with fail
      refine (awake01_st HK).mono ?_
      rintro e w99 ⟨rfl, HK⟩
      go_wp2_with fail
      go_ret
      exact ⟨rfl, HK.out.2⟩
    · have Hm : Hid (hasB m x = false) := Lib.hid gm
      have Hd : Hid (hasB d x = true) := Lib.hid gd
      have Ha : Hid (hasB a x = true) := Lib.hid ga
      clear gm gd ga
      go_enter Try.func17, Try.ntmps17
      go_wp2_with fail
      refine (great_st HK [(Aa, a.length, ca), (Ab, b.length, cb)] HBG.out (by simp) _).mono ?_
      rintro e w0 ⟨rfl, HK⟩
      go_wp2_with fail
      refine (Meet_st HK (fun _ h => h.1) (fun _ h => h.2.1) _ _ Rm).mono ?_
      rintro e w1 ⟨A1, c1, rfl, HK⟩
      go_wp2_with fail
      refine (Minus_st HK (fun _ h => h.2.1) (fun _ h => h.2.2.1) _ _ Rd).mono ?_
      rintro e w2 ⟨A2, c2, rfl, HK⟩
      go_wp2_with fail
      refine (Union_st HK (fun _ h => h.2.1) (fun _ h => h.1) _ _ Ru).mono ?_
      rintro e w3 ⟨A3, c3, rfl, HK⟩
      go_wp2_with fail
      refine (Norm_st HK (fun _ h => h.2.2.2.1) _ RA).mono ?_
      rintro e w4 ⟨A4, c4, rfl, HK⟩
      go_wp2_with fail
      refine (Same_st HK (fun _ h => h.2.1) (fun _ h => h.1) _ _ (decide_eq_true rfl)).mono ?_
      rintro e w5 ⟨rfl, HK⟩
      go_wp2_with fail
      refine (Meets_st HK (fun _ h => h.2.2.2.1) (fun _ h => h.2.2.1) _ _ Rz rfl).mono ?_
      rintro e w6 ⟨rfl, HK⟩
      go_wp2_with fail
      refine (Count_st HK (fun _ h => h.2.2.2.1) _ Sm).mono ?_
      rintro e w7 ⟨rfl, HK⟩
      go_wp2_with fail
      refine (Count_st HK (fun _ h => h.2.2.1) _ Sd).mono ?_
      rintro e w8 ⟨rfl, HK⟩
      go_wp2_with fail
      refine (Count_st HK (fun _ h => h.2.2.2.2.1) _ RA).mono ?_
      rintro e w9 ⟨rfl, HK⟩
      go_wp2_with fail
      refine (Has_st HK (fun _ h => h.2.2.2.1) _ _ Hm.out).mono ?_
      rintro e w10 ⟨rfl, HK⟩
      go_wp2_with fail
      refine (Has_st HK (fun _ h => h.2.2.1) _ _ Hd.out).mono ?_
      rintro e w11 ⟨rfl, HK⟩
      go_wp2_with fail
      refine (Has_st HK (fun _ h => h.2.2.2.2.1) _ _ Ha.out).mono ?_
      rintro e w12 ⟨rfl, HK⟩
      go_wp2_with fail
      refine (Has_st HK (fun _ h => h.2.2.2.1) _ _ Hm.out).mono ?_
      rintro e w13 ⟨rfl, HK⟩
      go_wp2_with fail
      refine (Within_st HK (fun _ h => h.2.2.2.1) (fun _ h => h.2.2.2.2.2.1) _ _ Rw rfl).mono ?_
      rintro e w14 ⟨rfl, HK⟩
      go_wp2_with fail
      refine (Meets_st HK (fun _ h => h.2.2.1) (fun _ h => h.2.2.2.2.2.1) _ _ Rv rfl).mono ?_
      rintro e w15 ⟨rfl, HK⟩
      go_wp2_with fail
      refine (awake01_st HK).mono ?_
      rintro e w99 ⟨rfl, HK⟩
      go_wp2_with fail
      go_ret
      exact ⟨rfl, HK.out.2⟩
    · have Hm : Hid (hasB m x = false) := Lib.hid gm
      have Hd : Hid (hasB d x = false) := Lib.hid gd
      have Ha : Hid (hasB a x = false) := Lib.hid ga
      clear gm gd ga
      go_enter Try.func17, Try.ntmps17
      go_wp2_with fail
      refine (great_st HK [(Aa, a.length, ca), (Ab, b.length, cb)] HBG.out (by simp) _).mono ?_
      rintro e w0 ⟨rfl, HK⟩
      go_wp2_with fail
      refine (Meet_st HK (fun _ h => h.1) (fun _ h => h.2.1) _ _ Rm).mono ?_
      rintro e w1 ⟨A1, c1, rfl, HK⟩
      go_wp2_with fail
      refine (Minus_st HK (fun _ h => h.2.1) (fun _ h => h.2.2.1) _ _ Rd).mono ?_
      rintro e w2 ⟨A2, c2, rfl, HK⟩
      go_wp2_with fail
      refine (Union_st HK (fun _ h => h.2.1) (fun _ h => h.1) _ _ Ru).mono ?_
      rintro e w3 ⟨A3, c3, rfl, HK⟩
      go_wp2_with fail
      refine (Norm_st HK (fun _ h => h.2.2.2.1) _ RA).mono ?_
      rintro e w4 ⟨A4, c4, rfl, HK⟩
      go_wp2_with fail
      refine (Same_st HK (fun _ h => h.2.1) (fun _ h => h.1) _ _ (decide_eq_true rfl)).mono ?_
      rintro e w5 ⟨rfl, HK⟩
      go_wp2_with fail
      refine (Meets_st HK (fun _ h => h.2.2.2.1) (fun _ h => h.2.2.1) _ _ Rz rfl).mono ?_
      rintro e w6 ⟨rfl, HK⟩
      go_wp2_with fail
      refine (Count_st HK (fun _ h => h.2.2.2.1) _ Sm).mono ?_
      rintro e w7 ⟨rfl, HK⟩
      go_wp2_with fail
      refine (Count_st HK (fun _ h => h.2.2.1) _ Sd).mono ?_
      rintro e w8 ⟨rfl, HK⟩
      go_wp2_with fail
      refine (Count_st HK (fun _ h => h.2.2.2.2.1) _ RA).mono ?_
      rintro e w9 ⟨rfl, HK⟩
      go_wp2_with fail
      refine (Has_st HK (fun _ h => h.2.2.2.1) _ _ Hm.out).mono ?_
      rintro e w10 ⟨rfl, HK⟩
      go_wp2_with fail
      refine (Has_st HK (fun _ h => h.2.2.1) _ _ Hd.out).mono ?_
      rintro e w11 ⟨rfl, HK⟩
      go_wp2_with fail
      refine (Has_st HK (fun _ h => h.2.2.2.2.1) _ _ Ha.out).mono ?_
      rintro e w12 ⟨rfl, HK⟩
      go_wp2_with fail
      refine (Has_st HK (fun _ h => h.2.2.2.1) _ _ Hm.out).mono ?_
      rintro e w13 ⟨rfl, HK⟩
      go_wp2_with fail
      refine (Within_st HK (fun _ h => h.2.2.2.1) (fun _ h => h.2.2.2.2.2.1) _ _ Rw rfl).mono ?_
      rintro e w14 ⟨rfl, HK⟩
      go_wp2_with fail
      refine (Meets_st HK (fun _ h => h.2.2.1) (fun _ h => h.2.2.2.2.2.1) _ _ Rv rfl).mono ?_
      rintro e w15 ⟨rfl, HK⟩
      go_wp2_with fail
      refine (awake01_st HK).mono ?_
      rintro e w99 ⟨rfl, HK⟩
      go_wp2_with fail
      go_ret
      exact ⟨rfl, HK.out.2⟩
  · have HBG := Lib.hid hbig
    have HK : Hid (St w w (fun W => True)) := Lib.hid (St.start (fun W hW => trivial))
    clear hbig hsa hna hsb hnb
    go_enter Try.func17, Try.ntmps17
    go_wp2_with fail
    refine (great_st HK [(Aa, a.length, ca), (Ab, b.length, cb)] HBG.out (by simp) _).mono ?_
    rintro e w0 ⟨rfl, HK⟩
    go_wp2_with fail
    refine (awake01_st HK).mono ?_
    rintro e w1 ⟨rfl, HK⟩
    go_wp2_with fail
    go_ret
    exact ⟨rfl, HK.out.2⟩
end Go.Proofs.Ytbllbifkckipdaa
