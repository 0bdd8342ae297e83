/- umlautlaw03.PartPoints: the walk. A number is among those whose values are in another set just if it is in the set and its value is there; its value is among those of the set. Condition: none beyond the row's own. -/
import Derived.Test.YtdaagdohhnhbdaaLift03
namespace Go.Proofs.Ytdaagdohhnhbdaa
open Go.RowKit Go.Shelf
set_option linter.unusedVariables false
set_option linter.unusedSimpArgs false

set_option maxRecDepth 100000 in
set_option maxHeartbeats 16000000 in
theorem PartPoints_walk (p0 p1 p2 p3 : Int) (As : Option Addr) (ns cs : Nat) (s : List Sp) (Ag : Option Addr) (ng cg : Nat) (g : List Sp) (x : Int) (w : World)
    (wp : (Lit.int .i64 p0).wf = true ∧ (Lit.int .i64 p1).wf = true ∧ (Lit.int .i64 p2).wf = true ∧ (Lit.int .i64 p3).wf = true)
    (hss : Spans w As ns s) (hws : SpW s) (hns : ns ≤ 9223372036854775807) (hsg : Spans w Ag ng g) (hwg : SpW g) (hng : ng ≤ 9223372036854775807) (wx : (Lit.int .i64 x).wf = true) :
    Calls Try.prog 8 #[.agg #[.int .i64 p0, .int .i64 p1, .int .i64 p2, .int .i64 p3], .slice As ns cs, .slice Ag ng cg, .int .i64 x] w fun e w' => e = .returned (.bool true) ∧ Below w.heap.size w w' := by
  obtain rfl := hss.len
  obtain rfl := hsg.len
  clear wp wx
  by_cases h1 : 300 < s.length
  · have HK : Hid (St w w (fun W => True)) := Lib.hid (St.start (fun W hW => trivial))
    have HK := St.pbox HK p0 p1 p2 p3
    have h1' : (300 : Int) < s.length := by omega
    clear hss hsg hng h1
    go_enter Try.func8, Try.ntmps8
    go_wp2_with fail
    refine (awake03_st HK).mono ?_
    rintro e w2 ⟨rfl, HK⟩
    go_wp2_with fail
    go_ret
    exact ⟨rfl, HK.out.2⟩
  by_cases h2 : 300 < g.length
  · have HK : Hid (St w w (fun W => True)) := Lib.hid (St.start (fun W hW => trivial))
    have HK := St.pbox HK p0 p1 p2 p3
    have h2' : (300 : Int) < g.length := by omega
    have h1' : ¬ (300 : Int) < s.length := by omega
    clear hss hsg hns h1 h2
    go_enter Try.func8, Try.ntmps8
    go_wp2_with fail
    refine (awake03_st HK).mono ?_
    rintro e w2 ⟨rfl, HK⟩
    go_wp2_with fail
    go_ret
    exact ⟨rfl, HK.out.2⟩
  have h2' : ¬ (300 : Int) < g.length := by omega
  have h1' : ¬ (300 : Int) < s.length := by omega
  have HK : Hid (St w w (fun W => Lst As s W ∧ Lst Ag g W ∧ True)) := Lib.hid (St.start (fun W hW => ⟨⟨hss.below hW, hws, by omega⟩, ⟨hsg.below hW, hwg, by omega⟩, trivial⟩))
  have HK := St.pbox HK p0 p1 p2 p3
  obtain ⟨pre, Rp⟩ := rep_pre p1 p2 p3 s g
  obtain ⟨im, Ri⟩ := rep_img p1 p2 p3 s
  obtain ⟨im2, Ri2⟩ := rep_img p1 p2 p3 pre
  have RW1 : Hid (Rep [] (fun y => Mem im2 y ∧ ¬ Mem g y)) := Lib.hid ⟨trivial, fun y => by
    simp only [InS, false_iff]
    rintro ⟨q1, q2⟩
    obtain ⟨_, z, g1, g2, g3, rfl⟩ := (Ri2.out.mem y).1 q1
    exact q2 ((Rp.out.mem z).1 g1).2.2.2.2⟩
  have RW2 : Hid (Rep [] (fun y => Mem pre y ∧ ¬ Mem s y)) := Lib.hid ⟨trivial, fun y => by
    simp only [InS, false_iff]
    rintro ⟨q1, q2⟩
    exact q2 ((Rp.out.mem y).1 q1).2.1⟩
  obtain ⟨v, hv⟩ : ∃ v, vNum p1 p2 p3 x = v := ⟨_, rfl⟩
  have HV := Lib.hid hv
  obtain ⟨ok, hok⟩ : ∃ b, vOk p1 p2 p3 x = b := ⟨_, rfl⟩
  have HOK := Lib.hid hok
  obtain ⟨bs, hbs⟩ : ∃ b, hasB s x = b := ⟨_, rfl⟩
  have HBS := Lib.hid hbs
  obtain ⟨bg, hbg⟩ : ∃ b, hasB g v = b := ⟨_, rfl⟩
  have HBG := Lib.hid hbg
  have HPB : Hid (hasB pre x = (ok && bs && bg)) := by
    unfold Hid
    rw [Bool.eq_iff_iff, hasB_iff, Rp.out.mem, Bool.and_eq_true, Bool.and_eq_true, ← hok, vOk_iff, ← hbs, hasB_iff, ← hbg, hasB_iff]
    unfold PreS
    constructor
    · rintro ⟨g1, g2, g3, g4, g5⟩
      have : vOk p1 p2 p3 x = true := (vOk_iff _ _ _ _).2 ⟨g1, g3, g4⟩
      have e : v = pval p1 p2 p3 x := by rw [← hv]; unfold vNum; rw [this]; rfl
      exact ⟨⟨⟨g1, g3, g4⟩, g2⟩, e ▸ g5⟩
    · rintro ⟨⟨⟨g1, g3, g4⟩, g2⟩, g5⟩
      have : vOk p1 p2 p3 x = true := (vOk_iff _ _ _ _).2 ⟨g1, g3, g4⟩
      have e : v = pval p1 p2 p3 x := by rw [← hv]; unfold vNum; rw [this]; rfl
      exact ⟨g1, g2, g3, g4, e ▸ g5⟩
  have HIB : ok = true → bs = true → hasB im v = true := by
    intro h1 h2
    rw [h1] at hok
    rw [h2, hasB_iff] at hbs
    obtain ⟨g1, g3, g4⟩ := (vOk_iff _ _ _ _).1 hok
    have e : v = pval p1 p2 p3 x := by rw [← hv]; unfold vNum; rw [hok]; rfl
    rw [hasB_iff, Ri.out.mem]
    exact ⟨g1, x, hbs, g3, g4, e.symm⟩
  clear hss hsg hns hng h1 h2 hv hok hbs hbg
  cases ok
  · have HPB : Hid (hasB pre x = false) := Lib.hid HPB.out
    clear HIB
    go_enter Try.func8, Try.ntmps8
    go_wp2_with fail
    obtain ⟨hp0, hp1, hp2, hp3⟩ := HK.out.now.1
    go_wp2_with fail
    refine (Value_st HK p0 p1 p2 p3 x HV.out HOK.out).mono ?_
    rintro e w1 ⟨rfl, HK⟩
    clear hp0 hp1 hp2 hp3
    go_wp2_with fail
    refine (Has_st HK (fun _ h => h.2.1) _ x HBS.out).mono ?_
    rintro e w2 ⟨rfl, HK⟩
    obtain ⟨hp0, hp1, hp2, hp3⟩ := HK.out.now.1
    go_wp2_with fail
    refine (Pre_st HK (fun _ h => h.2.1) (fun _ h => h.2.2.1) _ _ p0 p1 p2 p3 Rp).mono ?_
    rintro e w3 ⟨A3, c3, rfl, HK⟩
    clear hp0 hp1 hp2 hp3
    go_wp2_with fail
    refine (Has_st HK (fun _ h => h.1) _ x HPB.out).mono ?_
    rintro e w4 ⟨rfl, HK⟩
    obtain ⟨hp0, hp1, hp2, hp3⟩ := HK.out.now.2.1
    go_wp2_with fail
    refine (Image_st HK (fun _ h => h.1) _ p0 p1 p2 p3 Ri2).mono ?_
    rintro e w5 ⟨A5, c5, rfl, HK⟩
    clear hp0 hp1 hp2 hp3
    go_wp2_with fail
    refine (Within_st HK (fun _ h => h.1) (fun _ h => h.2.2.2.2.1) _ _ RW1 (decide_eq_true rfl)).mono ?_
    rintro e w6 ⟨rfl, HK⟩
    go_wp2_with fail
    refine (Within_st HK (fun _ h => h.2.1) (fun _ h => h.2.2.2.1) _ _ RW2 (decide_eq_true rfl)).mono ?_
    rintro e w7 ⟨rfl, HK⟩
    go_wp2_with fail
    refine (awake03_st HK).mono ?_
    rintro e w8 ⟨rfl, HK⟩
    go_wp2_with fail
    go_ret
    exact ⟨rfl, HK.out.2⟩
  cases bs
  · have HPB : Hid (hasB pre x = false) := Lib.hid HPB.out
    clear HIB
    go_enter Try.func8, Try.ntmps8
    go_wp2_with fail
    obtain ⟨hp0, hp1, hp2, hp3⟩ := HK.out.now.1
    go_wp2_with fail
    refine (Value_st HK p0 p1 p2 p3 x HV.out HOK.out).mono ?_
    rintro e w1 ⟨rfl, HK⟩
    clear hp0 hp1 hp2 hp3
    go_wp2_with fail
    refine (Has_st HK (fun _ h => h.2.1) _ x HBS.out).mono ?_
    rintro e w2 ⟨rfl, HK⟩
    obtain ⟨hp0, hp1, hp2, hp3⟩ := HK.out.now.1
    go_wp2_with fail
    refine (Pre_st HK (fun _ h => h.2.1) (fun _ h => h.2.2.1) _ _ p0 p1 p2 p3 Rp).mono ?_
    rintro e w3 ⟨A3, c3, rfl, HK⟩
    clear hp0 hp1 hp2 hp3
    go_wp2_with fail
    refine (Has_st HK (fun _ h => h.1) _ x HPB.out).mono ?_
    rintro e w4 ⟨rfl, HK⟩
    obtain ⟨hp0, hp1, hp2, hp3⟩ := HK.out.now.2.1
    go_wp2_with fail
    refine (Image_st HK (fun _ h => h.1) _ p0 p1 p2 p3 Ri2).mono ?_
    rintro e w5 ⟨A5, c5, rfl, HK⟩
    clear hp0 hp1 hp2 hp3
    go_wp2_with fail
    refine (Within_st HK (fun _ h => h.1) (fun _ h => h.2.2.2.2.1) _ _ RW1 (decide_eq_true rfl)).mono ?_
    rintro e w6 ⟨rfl, HK⟩
    go_wp2_with fail
    refine (Within_st HK (fun _ h => h.2.1) (fun _ h => h.2.2.2.1) _ _ RW2 (decide_eq_true rfl)).mono ?_
    rintro e w7 ⟨rfl, HK⟩
    go_wp2_with fail
    refine (awake03_st HK).mono ?_
    rintro e w8 ⟨rfl, HK⟩
    go_wp2_with fail
    go_ret
    exact ⟨rfl, HK.out.2⟩
  · have HPB : Hid (hasB pre x = bg) := by unfold Hid; rw [HPB.out]; simp
    have HIM := Lib.hid (HIB rfl rfl)
    clear HIB
    go_enter Try.func8, Try.ntmps8
    go_wp2_with fail
    obtain ⟨hp0, hp1, hp2, hp3⟩ := HK.out.now.1
    go_wp2_with fail
    refine (Value_st HK p0 p1 p2 p3 x HV.out HOK.out).mono ?_
    rintro e w1 ⟨rfl, HK⟩
    clear hp0 hp1 hp2 hp3
    go_wp2_with fail
    refine (Has_st HK (fun _ h => h.2.1) _ x HBS.out).mono ?_
    rintro e w2 ⟨rfl, HK⟩
    obtain ⟨hp0, hp1, hp2, hp3⟩ := HK.out.now.1
    go_wp2_with fail
    refine (Pre_st HK (fun _ h => h.2.1) (fun _ h => h.2.2.1) _ _ p0 p1 p2 p3 Rp).mono ?_
    rintro e w3 ⟨A3, c3, rfl, HK⟩
    clear hp0 hp1 hp2 hp3
    go_wp2_with fail
    refine (Has_st HK (fun _ h => h.1) _ x HPB.out).mono ?_
    rintro e w4 ⟨rfl, HK⟩
    go_wp2_with fail
    refine (Has_st HK (fun _ h => h.2.2.2.1) _ v HBG.out).mono ?_
    rintro e w4 ⟨rfl, HK⟩
    obtain ⟨hp0, hp1, hp2, hp3⟩ := HK.out.now.2.1
    have hnb : (bg != bg) = false := by simp
    go_wp2_with fail
    refine (Image_st HK (fun _ h => h.2.2.1) _ p0 p1 p2 p3 Ri).mono ?_
    rintro e w4 ⟨A4, c4, rfl, HK⟩
    clear hp0 hp1 hp2 hp3
    go_wp2_with fail
    refine (Has_st HK (fun _ h => h.1) _ v HIM.out).mono ?_
    rintro e w4 ⟨rfl, HK⟩
    obtain ⟨hp0, hp1, hp2, hp3⟩ := HK.out.now.2.2.1
    go_wp2_with fail
    refine (Image_st HK (fun _ h => h.2.1) _ p0 p1 p2 p3 Ri2).mono ?_
    rintro e w5 ⟨A5, c5, rfl, HK⟩
    clear hp0 hp1 hp2 hp3
    go_wp2_with fail
    refine (Within_st HK (fun _ h => h.1) (fun _ h => h.2.2.2.2.2.1) _ _ RW1 (decide_eq_true rfl)).mono ?_
    rintro e w6 ⟨rfl, HK⟩
    go_wp2_with fail
    refine (Within_st HK (fun _ h => h.2.2.1) (fun _ h => h.2.2.2.2.1) _ _ RW2 (decide_eq_true rfl)).mono ?_
    rintro e w7 ⟨rfl, HK⟩
    go_wp2_with fail
    refine (awake03_st HK).mono ?_
    rintro e w8 ⟨rfl, HK⟩
    go_wp2_with fail
    go_ret
    exact ⟨rfl, HK.out.2⟩
end Go.Proofs.Ytdaagdohhnhbdaa
