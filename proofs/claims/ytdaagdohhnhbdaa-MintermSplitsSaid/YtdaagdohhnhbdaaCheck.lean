/- Contracts of span.Check, span.Has, umlautref01.Has. Condition: the list is no longer than an int can count, its numbers are ints. -/
import Derived.Test.YtdaagdohhnhbdaaSet
namespace Go.Proofs.Ytdaagdohhnhbdaa
open Go.RowKit
set_option linter.unusedVariables false

/-- the numbers of spans are ints -/
def SpW (l : List Sp) : Prop := ∀ p ∈ l, (-9223372036854775808 ≤ p.1 ∧ p.1 ≤ 9223372036854775807) ∧ (-9223372036854775808 ≤ p.2 ∧ p.2 ≤ 9223372036854775807)
theorem drop_mem {α : Type} {l : List α} {k : Nat} {x : α} (h : l[k]? = some x) : x ∈ l := List.mem_of_getElem? h

set_option maxHeartbeats 1000000 in
theorem Check_any (A : Option Addr) (n c : Nat) (l : List Sp) (w : World) (h : Spans w A n l) (hn : n ≤ 9223372036854775806) :
    Gives Try.prog 65 #[.slice A n c] w (.bool (plainB (-1073741826) l)) := by
  have H := Lib.hid h
  clear h
  unfold Gives
  go_enter Try.func65, Try.ntmps65
  go_wp2_with fail
  go_loopw [3, 8] (fun la i wr => ∃ (k : Nat) (a : Int), k ≤ n ∧ -1073741826 ≤ a ∧ a ≤ 1073741824 ∧ i = .int .i64 k ∧ la = .int .i64 a ∧ Spans wr A n l ∧ Below w.heap.size w wr ∧ Hid (plainB a (l.drop k) = plainB (-1073741826) l)) (fun _ i _ => n - (intOf i).toNat)
  case atStart => exact ⟨0, _, Nat.zero_le _, by omega, by omega, rfl, rfl, H.out, Below.refl _ _, rfl⟩
  case round =>
    obtain ⟨k, a, hk, ha1, ha2, rfl, rfl, hS, hb, hal⟩ := hrel
    have HB := Lib.hid hb
    have HS := Lib.hid hS
    clear hb hS
    by_cases hlt : k < n
    · obtain ⟨b, off, p, rfl, hx, hc1, hc2⟩ := HS.out.at_ hlt
      have HX := Lib.hid (drop_cons? hx)
      clear hx
      go_wp2_with fail
      all_goals first
        | (go_ret
           refine ⟨ret_bool ?_, HB.out.alloc HB.out.size _⟩
           rw [eq_comm, ← hal.out, HX.out, ← Bool.not_eq_true, plainB_iff]
           rintro ⟨a1, a2, a3, _⟩
           omega)
        | (go_roundw
           case rel =>
             refine ⟨k + 1, p.2, by omega, by omega, by omega, by go_num, rfl, HS.out.alloc _, HB.out.alloc HB.out.size _, ?_⟩
             unfold Hid
             rw [← hal.out, HX.out]
             simp only [plainB]
             rw [decide_eq_true (by omega), decide_eq_true (by omega), decide_eq_true (by omega)]
             rfl
           case measure => simp [intOf]; omega)
    · go_wp2_with fail
      go_ret
      refine ⟨ret_bool ?_, HB.out⟩
      rw [← hal.out, List.drop_of_length_le (by have := HS.out.len; omega)]
      rfl
/-- as a Bool -/
def memB (l : List Sp) (x : Int) : Bool := l.any fun p => decide (p.1 ≤ x) && decide (x ≤ p.2)
theorem memB_iff (l : List Sp) (x : Int) : memB l x = true ↔ InS l x := by
  induction l with
  | nil => simp [memB, InS]
  | cons p l ih => simp only [memB, List.any_cons, InS, Bool.or_eq_true, Bool.and_eq_true, decide_eq_true_eq] at *; rw [ih]
def hasB (l : List Sp) (x : Int) : Bool := decide (-1073741824 ≤ x) && decide (x ≤ 1073741824) && memB l x
theorem hasB_iff (l : List Sp) (x : Int) : hasB l x = true ↔ Mem l x := by simp [hasB, Mem, memB_iff, and_assoc]
theorem memB_drop (l : List Sp) (k : Nat) (p : Sp) (x : Int) (h : l.drop k = p :: l.drop (k + 1)) : memB (l.drop k) x = (decide (p.1 ≤ x) && decide (x ≤ p.2) || memB (l.drop (k + 1)) x) := by
  rw [h]; rfl

set_option maxHeartbeats 1000000 in
theorem Has_any (A : Option Addr) (n c : Nat) (l : List Sp) (x : Int) (w : World) (h : Spans w A n l) (hn : n ≤ 9223372036854775806) :
    Gives Try.prog 36 #[.slice A n c, .int .i64 x] w (.bool (hasB l x)) := by
  have H := Lib.hid h
  clear h
  unfold Gives
  by_cases hx : x < -1073741824 ∨ 1073741824 < x
  · have e : hasB l x = false := by rw [← Bool.not_eq_true, hasB_iff]; rintro ⟨h1, h2, _⟩; omega
    rw [e]
    rcases hx with hx | hx
    · go_enter Try.func36, Try.ntmps36
      go_wp2_with fail
      go_ret
      exact ⟨rfl, Below.refl _ _⟩
    · have hx2 : ¬ x < -1073741824 := by omega
      go_enter Try.func36, Try.ntmps36
      go_wp2_with fail
      go_ret
      exact ⟨rfl, Below.refl _ _⟩
  have hx1 : ¬ x < -1073741824 := by omega
  have hx2 : ¬ 1073741824 < x := by omega
  have e : hasB l x = memB l x := by unfold hasB; rw [decide_eq_true (by omega), decide_eq_true (by omega)]; rfl
  rw [e]
  clear hx e
  go_enter Try.func36, Try.ntmps36
  go_wp2_with fail
  go_loopw [15] (fun i wr => ∃ k : Nat, k ≤ n ∧ i = .int .i64 k ∧ Spans wr A n l ∧ Below w.heap.size w wr ∧ Hid (memB (l.drop k) x = memB l x)) (fun i _ => n - (intOf i).toNat)
  case atStart => exact ⟨0, Nat.zero_le _, rfl, H.out, Below.refl _ _, rfl⟩
  case round =>
    obtain ⟨k, hk, rfl, hS, hb, hal⟩ := hrel
    have HB := Lib.hid hb
    have HS := Lib.hid hS
    clear hb hS
    by_cases hlt : k < n
    · obtain ⟨b, off, p, rfl, hx, hc1, hc2⟩ := HS.out.at_ hlt
      have HX := Lib.hid (memB_drop l k p x (drop_cons? hx))
      clear hx
      go_wp2_with fail
      all_goals first
        | (go_ret
           refine ⟨ret_bool ?_, HB.out.alloc HB.out.size _⟩
           rw [← hal.out, HX.out, decide_eq_true (by omega), decide_eq_true (by omega)]
           rfl)
        | (go_roundw
           case rel =>
             refine ⟨k + 1, by omega, by go_num, HS.out.alloc _, HB.out.alloc HB.out.size _, ?_⟩
             unfold Hid
             rw [← hal.out, HX.out]
             first
               | (rw [decide_eq_false (by omega)]; rfl)
               | (rw [decide_eq_false (p := x ≤ p.2) (by omega), Bool.and_false]; rfl)
           case measure => simp [intOf]; omega)
    · go_wp2_with fail
      go_ret
      refine ⟨ret_bool ?_, HB.out⟩
      rw [← hal.out, List.drop_of_length_le (by have := HS.out.len; omega)]
      rfl
theorem hasB_drop (l : List Sp) (k : Nat) (p : Sp) (x : Int) (h : l.drop k = p :: l.drop (k + 1)) : (hasB (l.drop k) x = true) ↔ ((p.1 ≤ x ∧ x ≤ p.2 ∧ -1073741824 ≤ x ∧ x ≤ 1073741824) ∨ hasB (l.drop (k + 1)) x = true) := by
  rw [h]
  simp only [hasB_iff, Mem, InS]
  constructor
  · rintro ⟨h1, h2, h3 | h3⟩
    · exact .inl ⟨h3.1, h3.2, h1, h2⟩
    · exact .inr ⟨h1, h2, h3⟩
  · rintro (⟨h1, h2, h3, h4⟩ | ⟨h1, h2, h3⟩)
    · exact ⟨h3, h4, .inl ⟨h1, h2⟩⟩
    · exact ⟨h1, h2, .inr h3⟩
set_option maxHeartbeats 1000000 in
theorem rHas_any (A : Option Addr) (n c : Nat) (l : List Sp) (x : Int) (w : World) (h : Spans w A n l) (hn : n ≤ 9223372036854775806) :
    Calls Try.prog 59 #[.slice A n c, .int .i64 x] w fun e w' => e = .returned (.bool (hasB l x)) ∧ w = w' := by
  have H := Lib.hid h
  clear h
  go_enter Try.func59, Try.ntmps59
  go_wp2_with fail
  go_loop [5] (fun i => ∃ k : Nat, k ≤ n ∧ i = .int .i64 k ∧ Hid (hasB (l.drop k) x = hasB l x)) (fun i => n - (intOf i).toNat)
  case atStart => exact ⟨0, Nat.zero_le _, rfl, rfl⟩
  case round =>
    obtain ⟨k, hk, rfl, hal⟩ := hrel
    by_cases hlt : k < n
    · obtain ⟨b, off, p, rfl, hx, hc1, hc2⟩ := H.out.at_ hlt
      have HX := Lib.hid (hasB_drop l k p x (drop_cons? hx))
      clear hx
      go_wp2_with fail
      all_goals first
        | (go_ret
           refine ⟨ret_bool ?_, rfl⟩
           rw [← hal.out, eq_comm, HX.out]
           exact .inl ⟨by omega, by omega, by omega, by omega⟩)
        | (go_round
           case rel =>
             refine ⟨k + 1, by omega, by go_num, ?_⟩
             unfold Hid
             rw [← hal.out]
             rw [Bool.eq_iff_iff, HX.out]
             exact ⟨fun g => .inr g, fun g => g.resolve_left (by omega)⟩
           case measure => simp [intOf]; omega)
    · go_wp2_with fail
      go_ret
      refine ⟨ret_bool ?_, rfl⟩
      rw [← hal.out, List.drop_of_length_le (by have := H.out.len; omega)]
      simp [hasB, memB]
end Go.Proofs.Ytdaagdohhnhbdaa
