/- Contracts of the packages word and umlautref02: Front, Compare. Condition: the slices that come in are no longer than an int can count. -/
import Derived.Test.YtbllbifkckipdaaRef02
namespace Go.Proofs.Ytbllbifkckipdaa
open Go.RowKit
set_option linter.unusedVariables false

def front : List Int → List Int → Nat
  | x :: xs, y :: ys => if x = y then front xs ys + 1 else 0
  | _, _ => 0
theorem drop_cons? {α : Type} {xs : List α} {k : Nat} {x : α} (h : xs[k]? = some x) : xs.drop k = x :: xs.drop (k + 1) := by
  obtain ⟨hl, rfl⟩ := List.getElem?_eq_some_iff.1 h
  exact List.drop_eq_getElem_cons hl
theorem front_nil_left (ys : List Int) : front [] ys = 0 := by unfold front; rfl
theorem front_nil_right (xs : List Int) : front xs [] = 0 := by cases xs <;> (unfold front; rfl)
theorem front_cons (x y : Int) (xs ys : List Int) : front (x :: xs) (y :: ys) = if x = y then front xs ys + 1 else 0 := by rw [front]
theorem front_le_left (xs ys : List Int) : front xs ys ≤ xs.length := by
  induction xs generalizing ys with
  | nil => simp [front_nil_left]
  | cons x xs ih => cases ys with
    | nil => simp [front_nil_right]
    | cons y ys => rw [front_cons]; have := ih ys; split <;> simp <;> omega
theorem front_le_right (xs ys : List Int) : front xs ys ≤ ys.length := by
  induction xs generalizing ys with
  | nil => simp [front_nil_left]
  | cons x xs ih => cases ys with
    | nil => simp [front_nil_right]
    | cons y ys => rw [front_cons]; have := ih ys; split <;> simp <;> omega
/-- k symbols are alike -/
def Alk (xs ys : List Int) (k : Nat) : Prop := front xs ys = k + front (xs.drop k) (ys.drop k)
theorem Alk.zero (xs ys : List Int) : Alk xs ys 0 := by simp [Alk]
theorem Alk.step {xs ys : List Int} {k : Nat} {x : Int} (h : Alk xs ys k) (hx : xs[k]? = some x) (hy : ys[k]? = some x) : Alk xs ys (k + 1) := by
  unfold Alk at *
  rw [h, drop_cons? hx, drop_cons? hy, front_cons, if_pos rfl]; omega
theorem Alk.stop {xs ys : List Int} {k : Nat} {x y : Int} (h : Alk xs ys k) (hx : xs[k]? = some x) (hy : ys[k]? = some y) (hne : x ≠ y) : front xs ys = k := by
  unfold Alk at *
  rw [h, drop_cons? hx, drop_cons? hy, front_cons, if_neg hne]; omega
theorem Alk.left {xs ys : List Int} {k : Nat} (h : Alk xs ys k) (hk : xs.length ≤ k) : front xs ys = k := by
  unfold Alk at *
  rw [h, List.drop_of_length_le hk, front_nil_left]; rfl
theorem Alk.right {xs ys : List Int} {k : Nat} (h : Alk xs ys k) (hk : ys.length ≤ k) : front xs ys = k := by
  unfold Alk at *
  rw [h, List.drop_of_length_le hk, front_nil_right]; rfl

theorem Front_any (A B : Option Addr) (n c m d : Nat) (xs ys : List Int) (w : World) (h : Ints .i32 w A n xs) (h' : Ints .i32 w B m ys) (hn : n ≤ 9223372036854775807) (hm : m ≤ 9223372036854775807) :
    Drawn Try.prog 24 #[.slice A n c, .slice B m d] w (.int .i64 (front xs ys)) := by
  have H := Lib.hid h
  have H' := Lib.hid h'
  clear h h'
  unfold Drawn
  go_enter Try.func24, Try.ntmps24
  go_wp2_with fail
  go_loopw [5] (fun i wr => ∃ k q : Nat, wr = w.drewN q ∧ k ≤ n ∧ k ≤ m ∧ i = .int .i64 k ∧ Hid (Alk xs ys k)) (fun i _ => n - (intOf i).toNat)
  case atStart => exact ⟨0, 0, rfl, Nat.zero_le _, Nat.zero_le _, rfl, Alk.zero _ _⟩
  case round =>
    obtain ⟨k, q, rfl, hk, hk', rfl, hal⟩ := hrel
    by_cases hlt : k < n
    · by_cases hlt' : k < m
      · obtain ⟨b, off, x, rfl, hx, hck⟩ := H.out.at_ hlt
        obtain ⟨b', off', y, rfl, hy, hck'⟩ := H'.out.at_ hlt'
        have HX := Lib.hid hx; clear hx
        have HY := Lib.hid hy; clear hy
        by_cases hxy : x = y
        · have hb : (x == y) = true := by simpa using hxy
          have HE := Lib.hid hxy; clear hxy
          go_wp2_with fail
          go_quiet (fail)
          go_wp2_with fail
          go_roundw
          case rel => exact ⟨k + 1, _, rfl, by omega, by omega, by go_num, hal.out.step HX.out (HE.out ▸ HY.out)⟩
          case measure => simp [intOf]; omega
        · have hb : (x == y) = false := by simpa using hxy
          have HE := Lib.hid hxy; clear hxy
          go_wp2_with fail
          go_quiet (fail)
          go_wp2_with fail
          go_ret
          exact ⟨ret_int (by rw [hal.out.stop HX.out HY.out HE.out]), _, World.drewN_drewN _ _ _⟩
      · have hd : decide (k < m) = false := by simpa using hlt'
        go_wp2_with fail
        go_quiet (fail)
        go_wp2_with fail
        go_ret
        exact ⟨ret_int (by rw [hal.out.right (by have := H'.out.len; omega)]), _, World.drewN_drewN _ _ _⟩
    · have hd : decide (k < n) = false := by simpa using hlt
      go_wp2_with fail
      go_quiet (fail)
      go_wp2_with fail
      go_ret
      exact ⟨ret_int (by rw [hal.out.left (by have := H.out.len; omega)]), _, World.drewN_drewN _ _ _⟩

theorem rFront_any (A B : Option Addr) (n c m d : Nat) (xs ys : List Int) (w : World) (h : Ints .i32 w A n xs) (h' : Ints .i32 w B m ys) (hn : n ≤ 9223372036854775807) (hm : m ≤ 9223372036854775807) :
    Drawn Try.prog 25 #[.slice A n c, .slice B m d] w (.int .i64 (front xs ys)) := by
  have H := Lib.hid h
  have H' := Lib.hid h'
  clear h h'
  unfold Drawn
  go_enter Try.func25, Try.ntmps25
  go_wp2_with fail
  go_loopw [5] (fun i wr => ∃ k q : Nat, wr = w.drewN q ∧ k ≤ n ∧ k ≤ m ∧ i = .int .i64 k ∧ Hid (Alk xs ys k)) (fun i _ => n - (intOf i).toNat)
  case atStart => exact ⟨0, 0, rfl, Nat.zero_le _, Nat.zero_le _, rfl, Alk.zero _ _⟩
  case round =>
    obtain ⟨k, q, rfl, hk, hk', rfl, hal⟩ := hrel
    by_cases hlt : k < n
    · by_cases hlt' : k < m
      · obtain ⟨b, off, x, rfl, hx, hck⟩ := H.out.at_ hlt
        obtain ⟨b', off', y, rfl, hy, hck'⟩ := H'.out.at_ hlt'
        have HX := Lib.hid hx; clear hx
        have HY := Lib.hid hy; clear hy
        by_cases hxy : x = y
        · have hb : (x == y) = true := by simpa using hxy
          have hb2 : (x != y) = false := by simpa using hxy
          have HE := Lib.hid hxy; clear hxy
          go_wp2_with fail
          go_quiet (fail)
          go_wp2_with fail
          go_roundw
          case rel => exact ⟨k + 1, _, rfl, by omega, by omega, by go_num, hal.out.step HX.out (HE.out ▸ HY.out)⟩
          case measure => simp [intOf]; omega
        · have hb : (x == y) = false := by simpa using hxy
          have hb2 : (x != y) = true := by simpa using hxy
          have HE := Lib.hid hxy; clear hxy
          go_wp2_with fail
          go_quiet (fail)
          go_wp2_with fail
          go_ret
          exact ⟨ret_int (by rw [hal.out.stop HX.out HY.out HE.out]), _, World.drewN_drewN _ _ _⟩
      · have hd : decide (k < m) = false := by simpa using hlt'
        go_wp2_with fail
        go_ret
        exact ⟨ret_int (by rw [hal.out.right (by have := H'.out.len; omega)]; omega), _, rfl⟩
    · have hd : decide (k < n) = false := by simpa using hlt
      go_wp2_with fail
      go_ret
      exact ⟨ret_int (by rw [hal.out.left (by have := H.out.len; omega)]; omega), _, rfl⟩

def cmpI (x y : Int) : Int := if x < y then -1 else if y < x then 1 else 0
theorem isNaN32_any (x : Int) : Pure Try.prog 77 #[.int .i32 x] (.bool false) := by
  intro w
  go_enter Try.func77, Try.ntmps77
  go_wp2
  go_ret
  exact ⟨ret_bool (by simp), rfl⟩
theorem Compare32_any (x y : Int) : Pure Try.prog 63 #[.int .i32 x, .int .i32 y] (.int .i64 (cmpI x y)) := by
  intro w
  rcases Int.lt_trichotomy x y with h | h | h
  · have e : cmpI x y = -1 := by simp [cmpI, h]
    rw [e]
    go_enter Try.func63, Try.ntmps63
    go_wp2_with (go_at_call 77; refine ((isNaN32_any _).out _).mono ?_; rintro e w' ⟨rfl, rfl⟩)
    go_ret
    exact ⟨rfl, rfl⟩
  · have e : cmpI x y = 0 := by simp [cmpI, h]
    rw [e]
    subst h
    go_enter Try.func63, Try.ntmps63
    go_wp2_with (go_at_call 77; refine ((isNaN32_any _).out _).mono ?_; rintro e w' ⟨rfl, rfl⟩)
    go_ret
    exact ⟨rfl, rfl⟩
  · have e : cmpI x y = 1 := by simp [cmpI, h]; omega
    rw [e]
    have h2 : ¬ x < y := by omega
    go_enter Try.func63, Try.ntmps63
    go_wp2_with (go_at_call 77; refine ((isNaN32_any _).out _).mono ?_; rintro e w' ⟨rfl, rfl⟩)
    go_ret
    exact ⟨rfl, rfl⟩

def cmpW : List Int → List Int → Int
  | [], [] => 0
  | [], _ :: _ => -1
  | _ :: _, [] => 1
  | x :: xs, y :: ys => if x = y then cmpW xs ys else if x < y then -1 else 1
theorem cmpW_front (xs ys : List Int) :
    (front xs ys = xs.length ∧ front xs ys = ys.length ∧ cmpW xs ys = 0) ∨ (front xs ys = xs.length ∧ front xs ys < ys.length ∧ cmpW xs ys = -1) ∨ (front xs ys < xs.length ∧ front xs ys = ys.length ∧ cmpW xs ys = 1) ∨
    (∃ x y, xs[front xs ys]? = some x ∧ ys[front xs ys]? = some y ∧ front xs ys < xs.length ∧ front xs ys < ys.length ∧ x ≠ y ∧ cmpW xs ys = cmpI x y) := by
  induction xs generalizing ys with
  | nil => cases ys <;> simp [front_nil_left, cmpW]
  | cons x xs ih =>
    cases ys with
    | nil => simp [front_nil_right, cmpW]
    | cons y ys =>
      rw [front_cons, cmpW]
      by_cases h : x = y
      · rw [if_pos h, if_pos h]
        simpa using ih ys
      · rw [if_neg h, if_neg h]
        refine .inr (.inr (.inr ⟨x, y, by simp, by simp, by simp, by simp, h, ?_⟩))
        unfold cmpI
        split
        · rfl
        · rw [if_pos (by omega)]

theorem WCompare_any (A B : Option Addr) (n c m d : Nat) (xs ys : List Int) (w : World) (h : Ints .i32 w A n xs) (h' : Ints .i32 w B m ys) (hn : n ≤ 9223372036854775807) (hm : m ≤ 9223372036854775807) :
    Drawn Try.prog 22 #[.slice A n c, .slice B m d] w (.int .i64 (cmpW xs ys)) := by
  have HF := Lib.hid (Front_any A B n c m d xs ys w h h' hn hm)
  have hl := h.len
  have hl' := h'.len
  rcases cmpW_front xs ys with ⟨f1, f2, e⟩ | ⟨f1, f2, e⟩ | ⟨f1, f2, e⟩ | ⟨x, y, hx, hy, f1, f2, hne, e⟩
  all_goals rw [e]
  all_goals rw [hl] at f1
  all_goals rw [hl'] at f2
  · have g1 : ((front xs ys : Int) == (n : Int)) = true := by simp [f1]
    have g2 : ((front xs ys : Int) == (m : Int)) = true := by simp [f2]
    clear f1 f2 e hl hl' h h'
    generalize front xs ys = p at *
    unfold Drawn
    go_enter Try.func22, Try.ntmps22
    go_wp2_with (go_at_call 24; refine (HF.out).mono ?_; rintro e w' ⟨rfl, q, rfl⟩)
    go_ret
    exact ⟨rfl, _, rfl⟩
  · have g1 : ((front xs ys : Int) == (n : Int)) = true := by simp [f1]
    have g2 : ((front xs ys : Int) == (m : Int)) = false := by simp; omega
    clear f1 f2 e hl hl' h h'
    generalize front xs ys = p at *
    unfold Drawn
    go_enter Try.func22, Try.ntmps22
    go_wp2_with (go_at_call 24; refine (HF.out).mono ?_; rintro e w' ⟨rfl, q, rfl⟩)
    go_ret
    exact ⟨rfl, _, rfl⟩
  · have g1 : ((front xs ys : Int) == (n : Int)) = false := by simp; omega
    have g2 : ((front xs ys : Int) == (m : Int)) = true := by simp [f2]
    clear f1 f2 e hl hl' h h'
    generalize front xs ys = p at *
    unfold Drawn
    go_enter Try.func22, Try.ntmps22
    go_wp2_with (go_at_call 24; refine (HF.out).mono ?_; rintro e w' ⟨rfl, q, rfl⟩)
    go_ret
    exact ⟨rfl, _, rfl⟩
  · have g1 : ((front xs ys : Int) == (n : Int)) = false := by simp; omega
    have g2 : ((front xs ys : Int) == (m : Int)) = false := by simp; omega
    obtain ⟨b, off, x1, rfl, hx1, hck⟩ := h.at_ f1
    obtain ⟨b', off', y1, rfl, hy1, hck'⟩ := h'.at_ f2
    rw [hx] at hx1
    rw [hy] at hy1
    cases hx1
    cases hy1
    clear e hl hl' h h' hx hy hne
    generalize front xs ys = p at *
    unfold Drawn
    go_enter Try.func22, Try.ntmps22
    go_wp2_with (go_at_call 24; refine (HF.out).mono ?_; rintro e w' ⟨rfl, q, rfl⟩)
    go_quiet ((go_at_call 63; first | exact (Compare32_any x y).quiet | exact (Compare32_any x y).quiet2 | exact (Compare32_any x y).quiet3))
    go_wp2_with fail
    go_ret
    exact ⟨rfl, _, World.drewN_drewN _ _ _⟩

theorem rCompare_any (A B : Option Addr) (n c m d : Nat) (xs ys : List Int) (w : World) (h : Ints .i32 w A n xs) (h' : Ints .i32 w B m ys) (hn : n ≤ 9223372036854775807) (hm : m ≤ 9223372036854775807) :
    Drawn Try.prog 23 #[.slice A n c, .slice B m d] w (.int .i64 (cmpW xs ys)) := by
  have HF := Lib.hid (rFront_any A B n c m d xs ys w h h' hn hm)
  have hl := h.len
  have hl' := h'.len
  rcases cmpW_front xs ys with ⟨f1, f2, e⟩ | ⟨f1, f2, e⟩ | ⟨f1, f2, e⟩ | ⟨x, y, hx, hy, f1, f2, hne, e⟩
  all_goals rw [e]
  all_goals rw [hl] at f1
  all_goals rw [hl'] at f2
  · have g1 : decide (front xs ys < n) = false := by simp [f1]
    have g2 : decide (n < m) = false := by simp; omega
    have g3 : decide (m < n) = false := by simp; omega
    clear f1 f2 e hl hl' h h'
    generalize front xs ys = p at *
    unfold Drawn
    go_enter Try.func23, Try.ntmps23
    go_wp2_with (go_at_call 25; refine (HF.out).mono ?_; rintro e w' ⟨rfl, q, rfl⟩)
    go_ret
    exact ⟨rfl, _, rfl⟩
  · have g1 : decide (front xs ys < n) = false := by simp [f1]
    have g2 : n < m := by omega
    clear f1 f2 e hl hl' h h'
    generalize front xs ys = p at *
    unfold Drawn
    go_enter Try.func23, Try.ntmps23
    go_wp2_with (go_at_call 25; refine (HF.out).mono ?_; rintro e w' ⟨rfl, q, rfl⟩)
    go_ret
    exact ⟨rfl, _, rfl⟩
  · have g1 : front xs ys < n := f1
    have g2 : decide (front xs ys < m) = false := by simp [f2]
    have g3 : m < n := by omega
    have g4 : decide (n < m) = false := by simp; omega
    clear f1 f2 e hl hl' h h'
    generalize front xs ys = p at *
    unfold Drawn
    go_enter Try.func23, Try.ntmps23
    go_wp2_with (go_at_call 25; refine (HF.out).mono ?_; rintro e w' ⟨rfl, q, rfl⟩)
    go_ret
    exact ⟨rfl, _, rfl⟩
  · obtain ⟨b, off, x1, rfl, hx1, hck⟩ := h.at_ f1
    obtain ⟨b', off', y1, rfl, hy1, hck'⟩ := h'.at_ f2
    rw [hx] at hx1
    rw [hy] at hy1
    cases hx1
    cases hy1
    clear e hl hl' h h' hx hy
    generalize front xs ys = p at *
    unfold Drawn cmpI
    by_cases hxy : x < y
    · rw [if_pos hxy]
      clear hne
      go_enter Try.func23, Try.ntmps23
      go_wp2_with (go_at_call 25; refine (HF.out).mono ?_; rintro e w' ⟨rfl, q, rfl⟩)
      go_quiet (fail)
      go_wp2_with fail
      go_ret
      exact ⟨rfl, _, World.drewN_drewN _ _ _⟩
    · rw [if_neg hxy, if_pos (by omega)]
      clear hne
      go_enter Try.func23, Try.ntmps23
      go_wp2_with (go_at_call 25; refine (HF.out).mono ?_; rintro e w' ⟨rfl, q, rfl⟩)
      go_quiet (fail)
      go_wp2_with fail
      go_ret
      exact ⟨rfl, _, World.drewN_drewN _ _ _⟩
end Go.Proofs.Ytbllbifkckipdaa
