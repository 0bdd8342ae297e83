/- umlautlaw01.SpanNorms: the walk. For every list the call returns true. Condition: none beyond the row's own. -/
import Derived.Test.YtbllbifkckipdaaAwake01
import Derived.Test.YtbllbifkckipdaaCheck
namespace Go.Proofs.Ytbllbifkckipdaa
open Go.RowKit
set_option linter.unusedVariables false

theorem plainB_rep {l r : List Sp} (hr : Rep r (Mem l)) : plainB (-1073741826) l = decide (l = r) := by
  rw [Bool.eq_iff_iff, plainB_iff, decide_eq_true_iff]
  constructor
  · intro h
    exact Rep.unique (Rep.self h) hr (fun _ => Iff.rfl)
  · rintro rfl
    exact hr.1

set_option maxRecDepth 100000 in
set_option maxHeartbeats 16000000 in
theorem SpanNorms_walk (A : Option Addr) (n c : Nat) (l : List Sp) (w : World) (h : Spans w A n l) (hw : SpW l) (hn : n ≤ 9223372036854775807) :
    Calls Try.prog 9 #[.slice A n c] w fun e w' => e = .returned (.bool true) ∧ Below w.heap.size w w' := by
  have HG0 := great_any w.heap.size [(A, n, c)] (w.alloc (.cells #[.slice A n c] 33)) (by
    intro j s hs
    have hb := heap_alloc_new w (.cells #[.slice A n c] 33)
    cases j with
    | zero => simp at hs; subst hs; simp only [World.cell?, hb]; rfl
    | succ j => simp at hs) (by simp)
  have hb1 : Below w.heap.size w (w.alloc (.cells #[.slice A n c] 33)) := (Below.refl _ _).alloc (Nat.le_refl _) _
  have hsp1 := h.below hb1
  have hbw : Hid (bigB [(A, n, c)] = decide (300 < n)) := by unfold Hid bigB; simp
  generalize hw1 : w.alloc (.cells #[.slice A n c] 33) = w1 at HG0 hb1 hsp1
  have HW1 := Lib.hid hw1
  have HG := Lib.hid HG0
  have HB1 := Lib.hid hb1
  have HSP1 := Lib.hid hsp1
  clear hw1 HG0 hb1 hsp1
  rcases hbig : decide (300 < n) with _ | _
  · have hn3 : n ≤ 300 := by simpa using hbig
    rw [hbig] at hbw
    have HC := Lib.hid (copied_any A n c l w1 HSP1.out (by omega))
    rcases hpl : plainB (-1073741826) l with _ | _
    all_goals
      have HPL := Lib.hid hpl
      have hll := Lib.hid h.len
      clear hpl h
      go_enter Try.func9, Try.ntmps9
      go_wp2_with (first
        | (go_at_call 37
           rw [HW1.out]
           refine HG.out.mono ?_
           rintro e w' ⟨rfl, rfl⟩
           rw [hbw.out])
        | (go_at_call 39
           refine HC.out.mono ?_
           rintro e w2 ho
           obtain ⟨A2, c2, rfl, hc2, hm2, hsp2, hb2⟩ := of_ownList ho
           have HSP2 := Lib.hid hsp2
           have HB2 := Lib.hid hb2
           have HN := Lib.hid (Norm_any A n c l w2 (HSP1.out.below hb2) hw (by omega))
           clear ho hsp2 hb2)
        | (go_at_call 40
           refine HN.out.mono ?_
           rintro e w3 ⟨r, ho, hr, hrl⟩
           obtain ⟨g3, c3, rfl, _, hc3, hm3, hrow3, hb3⟩ := ho.shape
           have hsp3 : Spans w3 (some ⟨g3, 0, none⟩) r.length r := Sl.of_own hrow3
           have HSP3 := Lib.hid hsp3
           clear hsp3
           have HR := Lib.hid hr
           have HB3 := Lib.hid hb3
           have HRN := Lib.hid (rNorm_any A2 l.length c2 l w3 (HSP2.out.below hb3) hw (by have := hll.out; omega))
           clear ho hr hrow3 hb3)
        | (go_at_call 41
           refine HRN.out.mono ?_
           rintro e w4 ho
           obtain ⟨A4, c4, rfl, hsp4, hb4⟩ := use_newRep ho HR.out
           have HSP4 := Lib.hid hsp4
           have HB4 := Lib.hid hb4
           have HSP34 := Lib.hid (HSP3.out.below hb4)
           have HSP24 := Lib.hid ((HSP2.out.below HB3.out).below hb4)
           have HSP14 := Lib.hid ((HSP1.out.below HB2.out).below (below_to HB3.out hb4))
           clear ho hsp4 hb4)
        | (go_at_call_of 26 (Value.slice (some ⟨g3, 0, none⟩) r.length c3)
           refine (Same_self _ _ _ _ _ _ r _ HSP34.out HSP4.out (by omega) (by omega)).out.mono ?_
           rintro e w5 ⟨rfl, q5, rfl⟩
           have HCK := Lib.hid (Check_any A n c l (w4.drewN q5) (HSP14.out.drewN q5) (by omega)))
        | (go_at_call_of 42 (Value.slice A n c)
           refine (HCK.out.as (congrArg Value.bool HPL.out)).out.mono ?_
           rintro e w6 ⟨rfl, hb6⟩
           have HB6 := Lib.hid hb6
           have HSP46 := Lib.hid ((HSP4.out.drewN q5).below hb6)
           have HSP36 := Lib.hid ((HSP34.out.drewN q5).below hb6)
           have HSP26 := Lib.hid ((HSP24.out.drewN q5).below hb6)
           have HSP16 := Lib.hid ((HSP14.out.drewN q5).below hb6)
           have HSM := Lib.hid ((Same_any _ _ _ c2 _ c4 l r w6 HSP26.out HSP46.out (by have := hll.out; omega) (by omega)).as (congrArg Value.bool ((plainB_rep HR.out).symm.trans HPL.out)))
           have HCR : Hid (∀ q, Gives Try.prog 42 #[.slice (some ⟨g3, 0, none⟩) r.length c3] (w6.drewN q) (.bool true)) := fun q => Check_rep _ r.length c3 r _ (w6.drewN q) (HSP36.out.drewN q) (by omega) HR.out
           clear hb6)
        | (go_at_call_of 26 (Value.slice A2 l.length c2)
           refine HSM.out.out.mono ?_
           rintro e w7 ⟨rfl, q7, rfl⟩)
        | (go_at_call_of 42 (Value.slice (some ⟨g3, 0, none⟩) r.length c3)
           refine (HCR.out q7).out.mono ?_
           rintro e w8 ⟨rfl, hb8⟩
           have HB8 := Lib.hid hb8
           have HSE : Hid (Drawn Try.prog 26 #[.slice A n c, .slice A2 l.length c2] w8 (.bool true)) := Same_self A A2 n l.length c c2 l w8 ((HSP16.out.drewN q7).below hb8) ((HSP26.out.drewN q7).below hb8) (by omega) (by have := hll.out; omega)
           clear hb8
           clear HCR HSM HCK HC HN HRN HG HSP46 HSP36 HSP26 HSP16 HSP34 HSP24 HSP14 HSP4 HSP3 HSP2 HSP1)
        | (go_at_call_of 26 (Value.slice A n c)
           refine HSE.out.out.mono ?_
           rintro e w10 ⟨rfl, q10, rfl⟩)
        | (go_at_call 38
           refine (awake01_any _).mono ?_
           rintro e w9 ⟨rfl, hb9⟩
           have HB9 := Lib.hid hb9
           clear hb9))
      go_ret
      exact ⟨rfl, below_to HB1.out (below_to HB2.out (below_to HB3.out (below_to (below_drewN HB4.out _) (below_to (below_drewN HB6.out _) (below_to (below_drewN HB8.out _) HB9.out)))))⟩
  · rw [hbig] at hbw
    go_enter Try.func9, Try.ntmps9
    go_wp2_with (first
      | (go_at_call 37
         rw [HW1.out]
         refine HG.out.mono ?_
         rintro e w' ⟨rfl, rfl⟩
         rw [hbw.out])
      | (go_at_call 38
         refine (awake01_any _).mono ?_
         rintro e w9 ⟨rfl, hb9⟩
         have HB9 := Lib.hid hb9
         clear hb9))
    go_ret
    exact ⟨rfl, below_to HB1.out HB9.out⟩
end Go.Proofs.Ytbllbifkckipdaa
