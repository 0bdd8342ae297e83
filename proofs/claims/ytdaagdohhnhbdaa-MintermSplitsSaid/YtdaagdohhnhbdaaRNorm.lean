/- Contract of umlautref01.Norm. Condition: lists of fewer than 2^20 spans, whose numbers are ints. -/
import Derived.Test.YtdaagdohhnhbdaaMinus
import Derived.Test.YtdaagdohhnhbdaaSpanEq
namespace Go.Proofs.Ytdaagdohhnhbdaa
open Go.RowKit
set_option linter.unusedVariables false

theorem madeB_self (l : List Sp) (x : Int) : madeB 0 l [] x = true ↔ Mem l x := by
  unfold madeB inHow
  rw [if_neg (by decide), if_neg (by decide)]
  rw [Bool.or_eq_true, hasB_iff, hasB_iff]
  simp [Mem, InS]
theorem rNorm_any (A : Option Addr) (n c : Nat) (l : List Sp) (w : World) (h : Spans w A n l) (hw : SpW l) (hn : n < 1048576) :
    Calls Try.prog 73 #[.slice A n c] w (NewRep w (Mem l)) := by
  have HM := Lib.hid (Make0_any A none n c 0 0 l [] w h (Sl.nil_ _ _ _) hw (fun p hp => by cases hp) hn (by omega))
  clear h
  go_enter Try.func73, Try.ntmps73
  go_wp2_with fail
  refine HM.out.mono ?_
  rintro e w1 ⟨r, ⟨A', n', c', rfl, h1, h2, h3, h4⟩, hr, hl⟩
  go_wp2_with fail
  go_ret
  exact ⟨r, ⟨A', n', c', rfl, h1, h2, h3, h4⟩, hr.congr (madeB_self l), hl⟩

theorem use_newRep {w w' : World} {l r : List Sp} {e : Ending} (h : NewRep w (Mem l) e w') (hr : Rep r (Mem l)) : ∃ A c, e = .returned (.slice A r.length c) ∧ Spans w' A r.length r ∧ Below w.heap.size w w' := by
  obtain ⟨r4, ⟨A4, n4, c4, rfl, hsp4, hc4, hm4, hb4⟩, hr4, hl4⟩ := h
  have e1 : r4 = r := Rep.unique hr4 hr (fun _ => Iff.rfl)
  subst e1
  have := hsp4.len
  subst this
  exact ⟨A4, c4, rfl, hsp4, hb4⟩
theorem Same_self (A B : Option Addr) (n m c d : Nat) (l : List Sp) (w : World) (h : Spans w A n l) (h' : Spans w B m l) (hn : n ≤ 9223372036854775807) (hm : m ≤ 9223372036854775807) : Drawn Try.prog 23 #[.slice A n c, .slice B m d] w (.bool true) :=
  (Same_any A B n c m d l l w h h' hn hm).as (by simp)
theorem Check_rep (A : Option Addr) (n c : Nat) (r : List Sp) (S : Int → Prop) (w : World) (h : Spans w A n r) (hn : n ≤ 9223372036854775806) (hr : Rep r S) : Gives Try.prog 65 #[.slice A n c] w (.bool true) :=
  (Check_any A n c r w h hn).as (by rw [(plainB_iff _ _).2 hr.1])

theorem spans_lit1 (w : World) (p : Sp) (t : TypeId) : Spans (w.alloc (.cells #[.int .i64 p.1, .int .i64 p.2] t)) (some ⟨w.heap.size, 0, none⟩) 1 [p] := by
  refine ⟨by simp [spanCells], fun _ => ⟨_, 0, rfl, fun j u hu => ?_⟩⟩
  have hb := heap_alloc_new w (.cells #[.int .i64 p.1, .int .i64 p.2] t)
  simp only [World.cell?, hb]
  simpa [spanCells] using hu
end Go.Proofs.Ytdaagdohhnhbdaa
