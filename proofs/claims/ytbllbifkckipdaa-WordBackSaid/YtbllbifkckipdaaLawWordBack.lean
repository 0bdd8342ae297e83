/- The walk of umlautlaw02.WordBack: it returns true. Condition: none. -/
import Derived.Test.YtbllbifkckipdaaAwake02
import Derived.Test.YtbllbifkckipdaaBackLaw
import Derived.Test.YtbllbifkckipdaaPut
namespace Go.Proofs.Ytbllbifkckipdaa
open Go.RowKit
set_option linter.unusedVariables false

theorem ints_one (k : IntKind) (zs : List Int) : ∀ u ∈ zs.map (Value.int k), u.oneCell' = true := by
  intro u hu
  obtain ⟨z, _, rfl⟩ := List.mem_map.1 hu
  rfl

set_option maxRecDepth 100000 in
set_option maxHeartbeats 4000000 in
theorem WordBack_walk (a0 : Option Addr) (len0 cap0 : Nat) (z0 : List Int) (a1 : Int) (w : World) (w0 : IsRow .i32 w a0 len0 cap0 z0) (w1 : (Lit.int .i32 a1).wf = true) :
    Calls Try.prog 8 #[.slice a0 len0 cap0, .int .i32 a1] w fun e w' => e = .returned (.bool true) ∧ Below w.heap.size w w' := by
  by_cases hlong : 2000 < len0
  · clear w0 w1
    go_enter Try.func8, Try.ntmps8
    go_wp2_with (go_at_call 18; refine (awake02_any _).out.mono ?_; rintro e w' ⟨rfl, hb⟩)
    go_ret
    exact ⟨rfl, hb⟩
  obtain ⟨i0, hi, hz0, hz1, hz2⟩ := info_parts info21
  have h := Lib.hid w0.ints
  have hcap := w0.cap
  clear w0 w1
  generalize List.take len0 z0 = xs at h
  have hlx := Lib.hid h.out.len
  -- the part behind the text: at whatever world
  have tail : ∀ (W : World), Ints .i32 W a0 len0 xs → Hid (∀ v W2, W2.ownsRow W.heap.size 21 1 v (len0 + 1) ((xs ++ [a1]).map (Value.int .i32)) → Below W.heap.size W W2 → ∃ B m d, v = .slice B m d ∧ m = len0 + 1 ∧ Ints .i32 W2 B (len0 + 1) (xs ++ [a1]) ∧ Ints .i32 W2 a0 len0 xs) := by
    intro W hW
    refine Lib.hid fun v W2 hown hb => ?_
    obtain ⟨B, d, rfl⟩ := own_shape hown
    exact ⟨B, _, d, rfl, rfl, Sl.of_own hown, hW.below hb⟩
  go_enter Try.func8, Try.ntmps8
  go_wp2_with fail
  refine (Text_any _ _ _ xs _ h.out (by omega)).mono ?_
  rintro e wa hT
  rcases hT with ⟨hall, rfl, hb⟩ | ⟨hall, rfl, hb⟩
  · have H1 := Lib.hid (h.out.below hb)
    have HB := Lib.hid hb
    have hsz : (strOfNums (encW xs)).size ≤ 8000 := by rw [strOfNums_size]; have := encW_len xs; have := hlx.out; omega
    have HR := Lib.hid (runes_text xs hall)
    have HOf := Lib.hid (Of_any (strOfNums (encW xs)) wa (by omega))
    clear h hb hall hsz
    generalize strOfNums (encW xs) = S at *
    go_wp2_with fail
    refine HOf.out.mono ?_
    rintro e wb ⟨A, n, c, rfl, hA, hn, hc, hb⟩
    rw [HR.out] at hA
    have HA := Lib.hid hA
    have H2 := Lib.hid (H1.out.below hb)
    have HB2 := Lib.hid (below_to HB.out hb)
    have en : n = len0 := hA.len.symm.trans hlx.out
    subst en
    clear hA hb H1 HB
    go_wp2_with fail
    refine ((rSame_any _ _ _ _ _ _ _ _ wb HA.out H2.out (by omega) (by omega)).as (v' := .bool true) (by simp)).gives.out.mono ?_
    rintro e wc ⟨rfl, hb⟩
    have H3 := Lib.hid (H2.out.below hb)
    have HB3 := Lib.hid (below_to HB2.out hb)
    clear hb H2 HB2
    have hlit : Hid ((wc.alloc (.cells #[] 21)).ownsRow wc.heap.size 21 1 (.slice (some ⟨wc.heap.size, 0, none⟩) 0 0) 0 []) := Lib.hid (World.ownsRow_lit wc #[] 0 (Nat.le_refl _) (by unfold maxLen; omega) rfl)
    have hsl := Lib.hid (H3.out.alloc (.cells #[] 21))
    go_wp2_with (first | (at_builtin; refine wpList_append_sl _ rfl (.tmp 25) (.tmp 26) 23 rfl wc.heap.size 21 i0 (.int .i32 0) 1 4 Try.underlying23 hi hz0 hz1 hz2 rfl (by decide) hlit.out rfl hsl.out rfl (ints_one _ _) (by unfold maxLen; omega) (by omega) (by simp) ?_; intro v1 w1 hown1 hg1; have hb1 := Lib.hid (((Below.refl wc.heap.size wc).alloc (Nat.le_refl _) (.cells #[] 21)).grown hg1 (by simp) (by intro k hk; simp [Value.ownBlock] at hk; omega)); have hown1b := Lib.hid hown1; clear hown1 hg1) | (at_builtin; go_must (refine wpList_push (w0 := w1) rfl (.tmp 27) (.tmp 29) 23 rfl wc.heap.size 21 i0 (.int .i32 0) 1 4 Try.underlying23 hi hz0 hz1 hz2 rfl (by decide) hown1b.out rfl [.int .i32 a1] _ rfl rfl (one1 rfl) (by omega) (by omega) hb1.out.size ?_); intro v2 w2 hown2 hg2 _))
    have hb2 := below_pushed hb1.out hown1b.out (Nat.le_refl _) hb1.out.size hg2
    obtain ⟨B, m, d, rfl, rfl, hM, hX⟩ := (tail wc H3.out).out v2 w2 (by simpa using hown2) hb2
    have hbt := Lib.hid (below_to HB3.out hb2)
    have HM := Lib.hid hM
    have HX := Lib.hid hX
    clear hown2 hg2 hM hX hb2 hlit hsl hown1b hb1 tail
    go_wp2_with fail
    refine ((WCompare_any _ _ _ _ _ _ _ _ w2 HX.out HM.out (by omega) (by omega)).as (congrArg (Value.int .i64) (cmpW_more xs a1))).out.mono ?_
    rintro e w3 ⟨rfl, q1, rfl⟩
    have HF := Lib.hid ((Front_any _ _ _ cap0 _ d _ _ (w2.drewN q1) (HX.out.drewN _) (HM.out.drewN _) (by omega) (by omega)).as (v' := .int .i64 n) (by rw [front_more, hlx.out]))
    have HC := fun q => ((WCompare_any _ _ _ d _ d _ _ (w2.drewN q) (HM.out.drewN _) (HM.out.drewN _) (by omega) (by omega)).as (congrArg (Value.int .i64) (cmpW_self _)))
    have HCC := Lib.hid HC
    clear HC
    go_wp2_with fail
    refine HF.out.out.mono ?_
    rintro e w3 ⟨rfl, q2, rfl⟩
    go_wp2_with fail
    try simp only [World.drewN_drewN]
    refine (HCC.out _).out.mono ?_
    rintro e w3 ⟨rfl, q3, rfl⟩
    go_wp2_with (go_at_call 18; refine (awake02_any _).out.mono ?_; rintro e w' ⟨rfl, hb⟩)
    go_ret
    exact ⟨rfl, below_to (below_drewN hbt.out _) hb⟩
  · have H1 := Lib.hid (h.out.below hb)
    have HB := Lib.hid hb
    clear h hb hall
    have hlit : Hid ((wa.alloc (.cells #[] 21)).ownsRow wa.heap.size 21 1 (.slice (some ⟨wa.heap.size, 0, none⟩) 0 0) 0 []) := Lib.hid (World.ownsRow_lit wa #[] 0 (Nat.le_refl _) (by unfold maxLen; omega) rfl)
    have hsl := Lib.hid (H1.out.alloc (.cells #[] 21))
    go_wp2_with (first | (at_builtin; refine wpList_append_sl _ rfl (.tmp 25) (.tmp 26) 23 rfl wa.heap.size 21 i0 (.int .i32 0) 1 4 Try.underlying23 hi hz0 hz1 hz2 rfl (by decide) hlit.out rfl hsl.out rfl (ints_one _ _) (by unfold maxLen; omega) (by omega) (by simp) ?_; intro v1 w1 hown1 hg1; have hb1 := Lib.hid (((Below.refl wa.heap.size wa).alloc (Nat.le_refl _) (.cells #[] 21)).grown hg1 (by simp) (by intro k hk; simp [Value.ownBlock] at hk; omega)); have hown1b := Lib.hid hown1; clear hown1 hg1) | (at_builtin; go_must (refine wpList_push (w0 := w1) rfl (.tmp 27) (.tmp 29) 23 rfl wa.heap.size 21 i0 (.int .i32 0) 1 4 Try.underlying23 hi hz0 hz1 hz2 rfl (by decide) hown1b.out rfl [.int .i32 a1] _ rfl rfl (one1 rfl) (by omega) (by omega) hb1.out.size ?_); intro v2 w2 hown2 hg2 _))
    have hb2 := below_pushed hb1.out hown1b.out (Nat.le_refl _) hb1.out.size hg2
    obtain ⟨B, m, d, rfl, rfl, hM, hX⟩ := (tail wa H1.out).out v2 w2 (by simpa using hown2) hb2
    have hbt := Lib.hid (below_to HB.out hb2)
    have HM := Lib.hid hM
    have HX := Lib.hid hX
    clear hown2 hg2 hM hX hb2 hlit hsl hown1b hb1 tail
    go_wp2_with fail
    refine ((WCompare_any _ _ _ _ _ _ _ _ w2 HX.out HM.out (by omega) (by omega)).as (congrArg (Value.int .i64) (cmpW_more xs a1))).out.mono ?_
    rintro e w3 ⟨rfl, q1, rfl⟩
    have HF := Lib.hid ((Front_any _ _ _ cap0 _ d _ _ (w2.drewN q1) (HX.out.drewN _) (HM.out.drewN _) (by omega) (by omega)).as (v' := .int .i64 len0) (by rw [front_more, hlx.out]))
    have HC := fun q => ((WCompare_any _ _ _ d _ d _ _ (w2.drewN q) (HM.out.drewN _) (HM.out.drewN _) (by omega) (by omega)).as (congrArg (Value.int .i64) (cmpW_self _)))
    have HCC := Lib.hid HC
    clear HC
    go_wp2_with fail
    refine HF.out.out.mono ?_
    rintro e w3 ⟨rfl, q2, rfl⟩
    go_wp2_with fail
    try simp only [World.drewN_drewN]
    refine (HCC.out _).out.mono ?_
    rintro e w3 ⟨rfl, q3, rfl⟩
    go_wp2_with (go_at_call 18; refine (awake02_any _).out.mono ?_; rintro e w' ⟨rfl, hb⟩)
    go_ret
    exact ⟨rfl, below_to (below_drewN hbt.out _) hb⟩
end Go.Proofs.Ytbllbifkckipdaa
