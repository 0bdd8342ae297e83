/- Contracts of slices.Grow of nil and of slices.Concat of two slices of spans. Condition: fewer than 2^38 spans each. -/
import Derived.Test.YtdaagdohhnhbdaaAppend
import Derived.Test.YtdaagdohhnhbdaaShelf
import Derived.Test.YtdaagdohhnhbdaaMake
namespace Go.Proofs.Ytdaagdohhnhbdaa
open Go.RowKit
set_option linter.unusedVariables false

theorem GrowNil_any (n : Nat) (hn : n < 1099511627776) (w : World) :
    Calls Try.prog 103 #[.slice none 0 0, .int .i64 n] w fun e w' => ∃ v, e = .returned v ∧ w'.ownsRow w.heap.size 34 2 v 0 [] ∧ Below w.heap.size w w' := by
  obtain ⟨i0, hi, hz0, hz1, hz2⟩ := info_parts info59
  by_cases h0 : n = 0
  · subst h0
    refine Calls.mono (Any8.slices_Grow_room Try.growSpan none 0 0 0 w (by omega) (by omega) (by omega) (by omega)) ?_
    rintro e w' ⟨rfl, rfl⟩
    exact ⟨_, rfl, World.ownsRow_nil _ _ _ _, Below.refl _ _⟩
  · refine Calls.mono (Any8.slices_Grow_grow Try.growSpan i0 _ hi hz0 (by rw [hz1]; decide) none 0 0 n [] w (by omega) (by omega) (by rw [hz2]; omega) (by omega) (by simp) (fun _ => rfl) (fun a h => by cases h)) ?_
    rintro e w' ⟨rfl, rfl⟩
    have hcap := grownCap_le_maxLen w (0 + n) 0 34 (by unfold maxLen; omega)
    have hcg := grownCap_ge w (0 + n) 0 34
    refine ⟨_, rfl, ⟨by simp, .inr ⟨w.heap.size, _, _, rfl, Nat.le_refl _, heap_alloc_new _ _, by omega, hcap, ?_, by simp⟩⟩, ?_⟩
    · have e2 : (Value.agg #[Value.int IntKind.i64 0, Value.int IntKind.i64 0]).cells.size = 2 := rfl
      have hcg2 : 0 + n ≤ grownCap w (0 + n) 0 (Try.growSpan_ren.t 25) := hcg
      simp only [Array.size_append, size_zeroCells, e2]
      simp only [List.size_toArray, List.length_nil]
      omega
    · exact (below_drewN (Below.refl _ _) 1).alloc (Nat.le_refl _) _

theorem spans_one (l : List Sp) : ∀ u ∈ spanCells l, u.oneCell' = true := by
  intro u hu
  simp only [spanCells, List.mem_flatMap] at hu
  obtain ⟨p, _, hu⟩ := hu
  simp at hu
  rcases hu with rfl | rfl <;> rfl

set_option maxRecDepth 100000 in
set_option maxHeartbeats 8000000 in
theorem Concat2_any (b : Nat) (A B : Option Addr) (n c m d : Nat) (x y : List Sp) (w : World) (h : Spans w A n x) (h' : Spans w B m y) (hn : n < 274877906944) (hm : m < 274877906944)
    (hc0 : w.cell? ⟨b, 0, none⟩ = some (.slice A n c)) (hc1 : w.cell? ⟨b, 1, none⟩ = some (.slice B m d)) :
    Calls Try.prog 85 #[.slice (some ⟨b, 0, none⟩) 2 2] w fun e w' => ∃ v, e = .returned v ∧ w'.ownsRow w.heap.size 34 2 v (n + m) (spanCells (x ++ y)) ∧ Below w.heap.size w w' := by
  obtain ⟨i0, hi, hz0, hz1, hz2⟩ := info_parts info59
  have HX := Lib.hid h
  have HY := Lib.hid h'
  clear h h'
  go_enter Try.func85, Try.ntmps85
  go_wp2_with fail
  go_loop [3, 11] (fun s j => (j = .int .i64 ((0 : Nat) : Int) ∧ s = .int .i64 ((0 : Nat) : Int)) ∨ (j = .int .i64 ((1 : Nat) : Int) ∧ s = .int .i64 (n : Int)) ∨ (j = .int .i64 ((2 : Nat) : Int) ∧ s = .int .i64 ((n + m : Nat) : Int))) (fun _ j => 2 - (intOf j).toNat)
  case atStart => exact .inl ⟨rfl, rfl⟩
  case round =>
  rcases hrel with ⟨rfl, rfl⟩ | ⟨rfl, rfl⟩ | ⟨rfl, rfl⟩
  · go_wp2_with fail
    go_round
    case rel => exact .inr (.inl ⟨rfl, by go_num⟩)
    case measure => simp [intOf]
  · go_wp2_with fail
    go_round
    case rel => exact .inr (.inr ⟨rfl, by go_num⟩)
    case measure => simp [intOf]
  · have HG := Lib.hid (GrowNil_any (n + m) (by omega) w)
    go_wp2_with fail
    refine HG.out.mono ?_
    rintro e w1 ⟨v, rfl, hown, hbel⟩
    have HO := Lib.hid hown
    have HB := Lib.hid hbel
    clear hown hbel
    go_wp2_with fail
    have hlen := Lib.hid (show (spanCells (x ++ y)).length = (n + m) * 2 by rw [spanCells_length, List.length_append, HX.out.len, HY.out.len])
    go_loopw [6, 27] (fun v j wr => (j = .int .i64 ((0 : Nat) : Int) ∧ wr.ownsRow w.heap.size 34 2 v 0 [] ∧ Below w.heap.size w wr) ∨ (j = .int .i64 ((1 : Nat) : Int) ∧ wr.ownsRow w.heap.size 34 2 v n (spanCells x) ∧ Below w.heap.size w wr) ∨ (j = .int .i64 ((2 : Nat) : Int) ∧ wr.ownsRow w.heap.size 34 2 v (n + m) (spanCells (x ++ y)) ∧ Below w.heap.size w wr)) (fun _ j _ => 2 - (intOf j).toNat)
    case atStart => exact .inl ⟨rfl, HO.out, HB.out⟩
    case round =>
    rcases hrel with ⟨rfl, ho, hb⟩ | ⟨rfl, ho, hb⟩ | ⟨rfl, ho, hb⟩
    · have hd0 := (hb.cell (lt_of_cell hc0)).trans hc0
      have HO2 := Lib.hid ho
      have HB2 := Lib.hid hb
      have HSX := Lib.hid (HX.out.keep fun p u hu => (hb.cell (World.block_lt_of_cell? w _ hu)).trans hu)
      obtain ⟨av, cv, hv⟩ := own_shape HO2.out
      subst hv
      clear ho hb
      go_wp2_with (at_builtin; go_must (refine wpList_append_sl _ rfl _ _ 24 rfl w.heap.size 34 i0 _ 2 16 Try.underlying24 hi hz0 hz1 hz2 rfl (by decide) HO2.out rfl HSX.out rfl (spans_one x) (by unfold maxLen; omega) (by omega) HB2.out.size ?_); intro v' w2 hown2 hg2)
      go_roundw
      case rel => exact .inr (.inl ⟨rfl, by simpa using hown2, HB2.out.grown hg2 HB2.out.size (fun k hk => (HO2.out.lt k hk).1)⟩)
      case measure => simp [intOf]
    · have hd1 := (hb.cell (lt_of_cell hc1)).trans hc1
      have HO2 := Lib.hid ho
      have HB2 := Lib.hid hb
      have HSY := Lib.hid (HY.out.keep fun p u hu => (hb.cell (World.block_lt_of_cell? w _ hu)).trans hu)
      obtain ⟨av, cv, hv⟩ := own_shape HO2.out
      subst hv
      clear ho hb
      go_wp2_with (at_builtin; go_must (refine wpList_append_sl _ rfl _ _ 24 rfl w.heap.size 34 i0 _ 2 16 Try.underlying24 hi hz0 hz1 hz2 rfl (by decide) HO2.out rfl HSY.out rfl (spans_one y) (by unfold maxLen; omega) (by omega) HB2.out.size ?_); intro v' w2 hown2 hg2)
      go_roundw
      case rel => exact .inr (.inr ⟨rfl, by rw [spanCells_append]; exact hown2, HB2.out.grown hg2 HB2.out.size (fun k hk => (HO2.out.lt k hk).1)⟩)
      case measure => simp [intOf]
    · have HO2 := Lib.hid ho
      have HB2 := Lib.hid hb
      obtain ⟨av, cv, hv⟩ := own_shape HO2.out
      subst hv
      clear ho hb
      go_wp2_with fail
      go_ret
      exact ⟨_, rfl, HO2.out, HB2.out⟩
end Go.Proofs.Ytdaagdohhnhbdaa
