/- Contract of umlautref01.Same, two spans compared; new slices of spans. Condition: the slices that come in are no longer than an int can count. -/
import Derived.Test.YtdaagdohhnhbdaaBase
import Derived.Laws.StructEq
namespace Go.Proofs.Ytdaagdohhnhbdaa
open Go.RowKit
set_option linter.unusedVariables false

theorem guardSpan : Try.prog.eqGuardType Try.prog.depth 34 = false := by kernel_rfl
theorem eqlSpan (x y : Int × Int) (b : Bool) (hb : decide (x = y) = b) (w : World) :
    (binOp .eql 34 (.agg #[.int .i64 x.1, .int .i64 x.2]) (.agg #[.int .i64 y.1, .int .i64 y.2])).run Try.prog w = .ok (.bool b) w := by
  have u3 := Try.underlying3
  have a3 := Try.isAgg3
  have z3 := Try.sizeOf3
  have hS : Try.prog.underlying 34 = some (.struct (Try.prog.fieldsOf 34)) := by kernel_rfl
  have hp : Try.prog.stoodInHeld 34 = false := by kernel_rfl
  rw [run_eql_struct, show (10000 : Nat) = 9999 + 1 from rfl, run_equalIn_agg w 9999 34 _ _ hS hp]
  simp only [Program.fieldsOf, Try.underlying34]
  obtain ⟨x1, x2⟩ := x
  obtain ⟨y1, y2⟩ := y
  subst hb
  go_simp
  by_cases h1 : x1 = y1 <;> by_cases h2 : x2 = y2 <;> simp [h1, h2]
theorem neqSpan (x y : Int × Int) (b : Bool) (hb : decide (x = y) = b) (w : World) :
    (binOp .neq 34 (.agg #[.int .i64 x.1, .int .i64 x.2]) (.agg #[.int .i64 y.1, .int .i64 y.2])).run Try.prog w = .ok (.bool (!b)) w := by
  have h := eqlSpan x y b hb w
  rw [run_eql_struct] at h
  rw [run_neq_struct]
  generalize (Op.equalIn 10000 34 (.agg #[.int .i64 x.1, .int .i64 x.2]) (.agg #[.int .i64 y.1, .int .i64 y.2])).run Try.prog w = r at h
  cases r with
  | ok a w1 => simp at h; obtain ⟨rfl, rfl⟩ := h; simp
  | halt h1 w1 => simp at h

theorem Same_any (A B : Option Addr) (n c m d : Nat) (xs ys : List (Int × Int)) (w : World) (h : Spans w A n xs) (h' : Spans w B m ys) (hn : n ≤ 9223372036854775807) (hm : m ≤ 9223372036854775807) :
    Drawn Try.prog 23 #[.slice A n c, .slice B m d] w (.bool (decide (xs = ys))) := by
  have H := Lib.hid h
  have H' := Lib.hid h'
  clear h h'
  have hg := guardSpan
  unfold Drawn
  by_cases hnm : n = m
  · subst hnm
    go_enter Try.func23, Try.ntmps23
    go_wp2_with fail
    go_loopw [5] (fun i wr => ∃ k q : Nat, wr = w.drewN q ∧ k ≤ n ∧ i = .int .i64 k ∧ Hid (xs.take k = ys.take k)) (fun i _ => n - (intOf i).toNat)
    case atStart => exact ⟨0, 0, rfl, Nat.zero_le _, rfl, rfl⟩
    case round =>
      obtain ⟨k, q, rfl, hk, rfl, hal⟩ := hrel
      by_cases hlt : k < n
      · obtain ⟨b, off, x, rfl, hx, hc1, hc2⟩ := H.out.at_ hlt
        obtain ⟨b', off', y, rfl, hy, hd1, hd2⟩ := H'.out.at_ hlt
        have HX := Lib.hid hx; clear hx
        have HY := Lib.hid hy; clear hy
        by_cases hxy : x = y
        · have hne := neqSpan x y true (by simpa using hxy)
          have HE := Lib.hid hxy; clear hxy
          go_wp2_with fail
          go_quiet (fail)
          go_wp2_with fail
          go_roundw
          case rel => exact ⟨k + 1, _, rfl, by omega, by go_num, by unfold Hid; rw [take_snoc? HX.out, take_snoc? HY.out, hal.out, HE.out]⟩
          case measure => simp [intOf]; omega
        · have hne := neqSpan x y false (by simpa using hxy)
          have HE := Lib.hid hxy; clear hxy
          go_wp2_with fail
          go_quiet (fail)
          go_wp2_with fail
          go_ret
          refine ⟨ret_bool ?_, _, World.drewN_drewN _ _ _⟩
          symm
          rw [decide_eq_false_iff_not]
          rintro rfl
          have := HX.out.symm.trans HY.out
          exact HE.out (by simpa using this)
      · have hlt2 : decide (k < n) = false := by simpa using hlt
        go_wp2_with fail
        go_ret
        refine ⟨ret_bool ?_, _, rfl⟩
        symm
        rw [decide_eq_true_eq]
        have := hal.out
        rwa [List.take_of_length_le (by have := H.out.len; omega), List.take_of_length_le (by have := H'.out.len; omega)] at this
  · have h1 : ((n : Int) == (m : Int)) = false := by simp; omega
    have h2 : ((n : Int) != (m : Int)) = true := by simp; omega
    have HN := Lib.hid hnm
    clear hnm
    go_enter Try.func23, Try.ntmps23
    go_wp2_with fail
    go_ret
    refine ⟨ret_bool ?_, 0, rfl⟩
    symm
    rw [decide_eq_false_iff_not]
    rintro rfl
    exact HN.out (H.out.len.symm.trans H'.out.len)

/-- what a call returns that hands out a new slice of spans -/
def NewSpans (w : World) (l : List (Int × Int)) (e : Ending) (w' : World) : Prop :=
  ∃ A n c, e = .returned (.slice A n c) ∧ Spans w' A n l ∧ n ≤ c ∧ c ≤ 9223372036854775807 ∧ Below w.heap.size w w'
theorem NewSpans.lit {w : World} {l : List (Int × Int)} (hl : l.length ≤ 1000) (t : TypeId) (n : Nat) (hn : n = l.length) (cs : Array Value) (hcs : cs.toList = spanCells l) :
    NewSpans w l (.returned (.slice (some ⟨w.heap.size, 0, none⟩) n n)) (w.alloc (.cells cs t)) := by
  subst hn
  refine ⟨_, _, _, rfl, ⟨by rw [spanCells_length], fun _ => ⟨_, _, rfl, fun j u hu => ?_⟩⟩, Nat.le_refl _, by omega, (Below.refl _ w).alloc (Nat.le_refl _) _⟩
  have hb : (w.alloc (.cells cs t)).heap[w.heap.size]? = some (.cells cs t (0, 0)) := heap_alloc_new w _
  simp only [World.cell?, hb]
  rw [← hcs] at hu
  simpa using hu
theorem NewSpans.nil_ (w : World) : NewSpans w [] (.returned (.slice none 0 0)) w := ⟨_, _, _, rfl, Sl.nil_ _ _ _, Nat.le_refl _, by omega, Below.refl _ _⟩
end Go.Proofs.Ytdaagdohhnhbdaa
