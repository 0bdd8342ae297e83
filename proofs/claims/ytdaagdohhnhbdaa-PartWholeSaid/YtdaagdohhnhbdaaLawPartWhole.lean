/- umlautlaw03.PartWhole: the walk. The part that takes all is the number itself. Condition: none beyond the row's own. -/
import Derived.Test.YtdaagdohhnhbdaaLift03
namespace Go.Proofs.Ytdaagdohhnhbdaa
open Go.RowKit Go.Shelf
set_option linter.unusedVariables false
set_option linter.unusedSimpArgs false

theorem Whole_st {w0 w : World} {F : World → Prop} (hK : Hid (St w0 w F)) (a : Int) : Calls Try.prog 28 #[.int .i64 a] w (RetV w0 (.agg #[.int .i64 a, .int .i64 0, .int .i64 21, .int .i64 0]) F) := retV_gives hK (Whole_any a w)
theorem whole_val {x : Int} (h0 : 0 ≤ x) (h1 : x ≤ 2097151) : pval 0 21 0 x = x := by
  have e : pval 0 21 0 x = x / 1 % 2097152 * 1 := rfl
  rw [e]; omega
theorem whole_img (s : List Sp) (y : Int) : (Mem s y ∧ Mem [(0, 2097151)] y) ↔ ImgS 0 21 0 s y := by
  have hb : bitsB 0 21 0 = true := by decide
  have hm : Mem [(0, 2097151)] y ↔ (0 ≤ y ∧ y ≤ 2097151) := by simp only [Mem, InS, or_false]; omega
  rw [hm]
  unfold ImgS
  constructor
  · rintro ⟨h, h0, h1⟩; exact ⟨hb, y, h, h0, h1, whole_val h0 h1⟩
  · rintro ⟨_, x, h, h0, h1, rfl⟩; rw [whole_val h0 h1]; exact ⟨h, h0, h1⟩
theorem whole_pre (s g : List Sp) (y : Int) : ((Mem s y ∧ Mem g y) ∧ Mem [(0, 2097151)] y) ↔ PreS 0 21 0 s g y := by
  have hb : bitsB 0 21 0 = true := by decide
  have hm : Mem [(0, 2097151)] y ↔ (0 ≤ y ∧ y ≤ 2097151) := by simp only [Mem, InS, or_false]; omega
  rw [hm]
  unfold PreS
  constructor
  · rintro ⟨⟨h, h'⟩, h0, h1⟩; exact ⟨hb, h, h0, h1, by rw [whole_val h0 h1]; exact h'⟩
  · rintro ⟨_, h, h0, h1, h'⟩; rw [whole_val h0 h1] at h'; exact ⟨⟨h, h'⟩, h0, h1⟩

set_option maxRecDepth 100000 in
set_option maxHeartbeats 16000000 in
theorem PartWhole_walk (As : Option Addr) (ns cs : Nat) (s : List Sp) (Ag : Option Addr) (ng cg : Nat) (g : List Sp) (a : Int) (w : World)
    (hss : Spans w As ns s) (hws : SpW s) (hns : ns ≤ 9223372036854775807) (hsg : Spans w Ag ng g) (hwg : SpW g) (hng : ng ≤ 9223372036854775807) (wx : (Lit.int .i64 a).wf = true) :
    Calls Try.prog 5 #[.slice As ns cs, .slice Ag ng cg, .int .i64 a] w fun e w' => e = .returned (.bool true) ∧ Below w.heap.size w w' := by
  obtain rfl := hss.len
  obtain rfl := hsg.len
  clear wx
  by_cases h1 : 300 < s.length
  · have HK : Hid (St w w (fun W => True)) := Lib.hid (St.start (fun W hW => trivial))
    have h1' : (300 : Int) < s.length := by omega
    clear hss hsg hng h1
    go_enter Try.func5, Try.ntmps5
    go_wp2_with fail
    refine (awake03_st HK).mono ?_
    rintro e w2 ⟨rfl, HK⟩
    go_wp2_with fail
    go_ret
    exact ⟨rfl, HK.out.2⟩
  by_cases h2 : 300 < g.length
  · have HK : Hid (St w w (fun W => True)) := Lib.hid (St.start (fun W hW => trivial))
    have h2' : (300 : Int) < g.length := by omega
    have h1' : ¬ (300 : Int) < s.length := by omega
    clear hss hsg hns h1 h2
    go_enter Try.func5, Try.ntmps5
    go_wp2_with fail
    refine (awake03_st HK).mono ?_
    rintro e w2 ⟨rfl, HK⟩
    go_wp2_with fail
    go_ret
    exact ⟨rfl, HK.out.2⟩
  have h2' : ¬ (300 : Int) < g.length := by omega
  have h1' : ¬ (300 : Int) < s.length := by omega
  have HK : Hid (St w w (fun W => Lst As s W ∧ Lst Ag g W ∧ True)) := Lib.hid (St.start (fun W hW => ⟨⟨hss.below hW, hws, by omega⟩, ⟨hsg.below hW, hwg, by omega⟩, trivial⟩))
  obtain ⟨m1, Rm1⟩ := rep_meet s [(0, 2097151)]
  obtain ⟨m2, Rm2⟩ := rep_meet s g
  obtain ⟨m3, Rm3⟩ := rep_meet m2 [(0, 2097151)]
  have Ri : Hid (Rep m1 (ImgS 0 21 0 s)) := Lib.hid (Rm1.out.congr (whole_img s))
  have Rp : Hid (Rep m3 (PreS 0 21 0 s g)) := Lib.hid (Rm3.out.congr fun y => by rw [Rm2.out.mem]; exact whole_pre s g y)
  clear hss hsg hns hng h1 h2
  go_enter Try.func5, Try.ntmps5
  go_wp2_with fail
  have HK := St.lit HK (0, 2097151) (by intro p hp; simp at hp; subst hp; simp)
  refine (Whole_st HK a).mono ?_
  rintro e w1 ⟨rfl, HK⟩
  go_wp2_with fail
  refine (Image_st HK (fun _ h => h.2.1) _ a 0 21 0 Ri).mono ?_
  rintro e w2 ⟨A2, c2, rfl, HK⟩
  go_wp2_with fail
  refine (Meet_st HK (fun _ h => h.2.2.1) (fun _ h => h.2.1) _ _ Rm1).mono ?_
  rintro e w3 ⟨A3, c3, rfl, HK⟩
  go_wp2_with fail
  refine (Same_st HK (fun _ h => h.2.1) (fun _ h => h.1) _ _ (decide_eq_true rfl)).mono ?_
  rintro e w4 ⟨rfl, HK⟩
  go_wp2_with fail
  refine (Whole_st HK a).mono ?_
  rintro e w5 ⟨rfl, HK⟩
  go_wp2_with fail
  refine (Pre_st HK (fun _ h => h.2.2.2.1) (fun _ h => h.2.2.2.2.1) _ _ a 0 21 0 Rp).mono ?_
  rintro e w6 ⟨A6, c6, rfl, HK⟩
  go_wp2_with fail
  refine (Meet_st HK (fun _ h => h.2.2.2.2.1) (fun _ h => h.2.2.2.2.2.1) _ _ Rm2).mono ?_
  rintro e w7 ⟨A7, c7, rfl, HK⟩
  go_wp2_with fail
  refine (Meet_st HK (fun _ h => h.1) (fun _ h => h.2.2.2.2.1) _ _ Rm3).mono ?_
  rintro e w8 ⟨A8, c8, rfl, HK⟩
  go_wp2_with fail
  refine (Same_st HK (fun _ h => h.2.2.1) (fun _ h => h.1) _ _ (decide_eq_true rfl)).mono ?_
  rintro e w9 ⟨rfl, HK⟩
  go_wp2_with fail
  refine (awake03_st HK).mono ?_
  rintro e w10 ⟨rfl, HK⟩
  go_wp2_with fail
  go_ret
  exact ⟨rfl, HK.out.2⟩
end Go.Proofs.Ytdaagdohhnhbdaa
