/- Contracts of part.bits, part.Right, part.Whole, part.Value and of umlautref03.Two, Bits, Right, Value. Condition: the numbers are ints. -/
import Derived.Test.YticfbbigljgjdaaSt
namespace Go.Proofs.Yticfbbigljgjdaa
open Go.RowKit
set_option linter.unusedVariables false

def bitsB (d t u : Int) : Bool := decide (0 ≤ d) && decide (d ≤ 20) && decide (1 ≤ t) && decide (t ≤ 21) && decide (0 ≤ u) && decide (u ≤ 20) && (decide (u = 0) || decide (t ≤ 6))
theorem bitsB_iff (d t u : Int) : bitsB d t u = true ↔ (0 ≤ d ∧ d ≤ 20 ∧ 1 ≤ t ∧ t ≤ 21 ∧ 0 ≤ u ∧ u ≤ 20 ∧ (u = 0 ∨ t ≤ 6)) := by simp [bitsB, and_assoc]
def pag (a d t u : Int) : Value := .agg #[.int .i64 a, .int .i64 d, .int .i64 t, .int .i64 u]

theorem bcell1 {W w1 : World} (hb : Below W.heap.size W w1) : (∀ b o, b < W.heap.size → w1.cell? ⟨b, o, none⟩ = W.cell? ⟨b, o, none⟩) ∧ (∀ b o, b < W.heap.size → w1.frozen? ⟨b, o, none⟩ = W.frozen? ⟨b, o, none⟩) :=
  ⟨fun b o h => hb.cell (p := ⟨b, o, none⟩) h, fun b o h => hb.frozen (p := ⟨b, o, none⟩) h⟩

set_option maxHeartbeats 4000000 in
theorem bits_any (a d t u : Int) (w : World) : Gives Try.prog 60 #[.agg #[.int .i64 a, .int .i64 d, .int .i64 t, .int .i64 u]] w (.bool (bitsB d t u)) := by
  unfold Gives
  go_enter Try.func60, Try.ntmps60
  go_wp2
  all_goals (go_ret; refine ⟨ret_bool ?_, (Below.refl _ _).alloc (Nat.le_refl _) _⟩; rw [Bool.eq_iff_iff, bitsB_iff]; simp_all; try omega)
set_option maxHeartbeats 4000000 in
theorem rBits_any (a d t u : Int) (w : World) : Gives Try.prog 55 #[.agg #[.int .i64 a, .int .i64 d, .int .i64 t, .int .i64 u]] w (.bool (bitsB d t u)) := by
  unfold Gives
  go_enter Try.func55, Try.ntmps55
  go_wp2
  all_goals (go_ret; refine ⟨ret_bool ?_, (Below.refl _ _).alloc (Nat.le_refl _) _⟩; rw [Bool.eq_iff_iff, bitsB_iff]; simp_all; try omega)

/-- a power of 2 -/
def pw (n : Int) : Int := 2 ^ n.toNat
theorem pw_nat (k : Nat) : pw (k : Int) = 2 ^ k := by unfold pw; simp
theorem pw_pos (n : Int) : 1 ≤ pw n := by
  unfold pw
  have : (0 : Int) < 2 ^ n.toNat := Int.pow_pos (by decide)
  omega
theorem pw_succ {n : Int} (h : 0 ≤ n) : pw (n + 1) = 2 * pw n := by
  unfold pw
  rw [show (n + 1).toNat = n.toNat + 1 by omega, Int.pow_succ, Int.mul_comm]
theorem pw_mono {m n : Int} (h0 : 0 ≤ m) (h : m ≤ n) : pw m ≤ pw n := by
  obtain ⟨k, rfl⟩ : ∃ k : Nat, n = m + k := ⟨(n - m).toNat, by omega⟩
  clear h
  induction k with
  | zero => simp
  | succ k ih =>
    have := pw_succ (n := m + k) (by omega)
    have hp := pw_pos (m + k)
    rw [show m + ((k + 1 : Nat) : Int) = m + k + 1 by omega, this]; omega
theorem pw_le21 {n : Int} (h0 : 0 ≤ n) (h : n ≤ 21) : pw n ≤ 2097152 := pw_mono (n := 21) h0 h
theorem pw_le6 {n : Int} (h0 : 0 ≤ n) (h : n ≤ 6) : pw n ≤ 64 := pw_mono (n := 6) h0 h
/-- a part's value of a number -/
def pval (d t u x : Int) : Int := x / pw d % pw t * pw u
theorem pval_bd {d t u : Int} (h : bitsB d t u = true) (x : Int) : 0 ≤ pval d t u x ∧ pval d t u x ≤ 67108864 := by
  obtain ⟨h1, h2, h3, h4, h5, h6, h7⟩ := (bitsB_iff _ _ _).1 h
  unfold pval
  have ht := pw_pos t
  have hu := pw_pos u
  have m0 := Int.emod_nonneg (x / pw d) (b := pw t) (by omega)
  have m1 := Int.emod_lt_of_pos (x / pw d) (b := pw t) (by omega)
  refine ⟨Int.mul_nonneg m0 (by omega), ?_⟩
  rcases h7 with rfl | h7
  · have : pw 0 = 1 := rfl
    rw [this]
    have := pw_le21 (n := t) (by omega) h4
    omega
  · have ht6 := pw_le6 (n := t) (by omega) h7
    have hu6 := pw_le21 (n := u) h5 (by omega)
    have h20 : pw u ≤ 1048576 := pw_mono (n := 20) h5 h6
    have := Int.mul_le_mul (a := x / pw d % pw t) (b := pw u) (c := 63) (d := 1048576) (by omega) h20 (by omega) (by omega)
    omega

theorem Whole_any (a : Int) (w : World) : Gives Try.prog 52 #[.int .i64 a] w (.agg #[.int .i64 a, .int .i64 0, .int .i64 21, .int .i64 0]) := by
  unfold Gives
  go_enter Try.func52, Try.ntmps52
  go_wp2_with fail
  exact bodyPost_ret (v := .agg #[.int .i64 a, .int .i64 0, .int .i64 21, .int .i64 0]) (by simp [results, Try.results52, go_sem]) rfl ⟨rfl, (Below.refl _ _).alloc (Nat.le_refl _) _⟩
def rightB (a d t u n : Int) : Bool := decide (0 ≤ a) && decide (a < n) && bitsB d t u
theorem Right_any (a d t u n : Int) (w : World) : Gives Try.prog 51 #[.agg #[.int .i64 a, .int .i64 d, .int .i64 t, .int .i64 u], .int .i64 n] w (.bool (rightB a d t u n)) := by
  have hb := fun w => bits_any a d t u w
  unfold Gives
  by_cases h1 : 0 ≤ a
  · by_cases h2 : a < n
    · have e : rightB a d t u n = bitsB d t u := by simp [rightB, h1, h2]
      rw [e]
      have HB := Lib.hid hb
      clear hb
      generalize bitsB d t u = v at *
      go_enter Try.func51, Try.ntmps51
      go_wp2_with (go_at_call 60; refine (HB.out _).out.mono ?_; rintro e w1 ⟨rfl, hb1⟩)
      go_ret
      exact ⟨rfl, below_to ((Below.refl _ _).alloc (Nat.le_refl _) _) hb1⟩
    · have e : rightB a d t u n = false := by simp [rightB, h2]
      rw [e]
      clear hb
      go_enter Try.func51, Try.ntmps51
      go_wp2_with fail
      go_ret
      exact ⟨rfl, (Below.refl _ _).alloc (Nat.le_refl _) _⟩
  · have e : rightB a d t u n = false := by simp [rightB, h1]
    rw [e]
    clear hb
    go_enter Try.func51, Try.ntmps51
    go_wp2_with fail
    go_ret
    exact ⟨rfl, (Below.refl _ _).alloc (Nat.le_refl _) _⟩
theorem rRight_any (a d t u n : Int) (w : World) : Gives Try.prog 45 #[.agg #[.int .i64 a, .int .i64 d, .int .i64 t, .int .i64 u], .int .i64 n] w (.bool (rightB a d t u n)) := by
  unfold Gives
  have HB := Lib.hid (fun w => rBits_any a d t u w)
  rcases hv : bitsB d t u with _ | _
  · have e : rightB a d t u n = false := by simp [rightB, hv]
    rw [hv] at HB
    rw [e]
    clear hv e
    go_enter Try.func45, Try.ntmps45
    go_wp2_with (go_at_call 55; refine (HB.out _).out.mono ?_; rintro e w1 ⟨rfl, hb1⟩)
    go_ret
    exact ⟨rfl, below_to ((Below.refl _ _).alloc (Nat.le_refl _) _) hb1⟩
  · have e : rightB a d t u n = (decide (0 ≤ a) && decide (a < n)) := by simp [rightB, hv]
    rw [hv] at HB
    rw [e]
    clear hv e
    by_cases h1 : 0 ≤ a <;> by_cases h2 : a < n
    all_goals
      go_enter Try.func45, Try.ntmps45
      go_wp2_with (go_at_call 55; refine (HB.out _).out.mono ?_; rintro e w1 ⟨rfl, hb1⟩; obtain ⟨hc, hf⟩ := bcell1 hb1)
      go_ret
      exact ⟨ret_bool (by simp [h1, h2]), below_to ((Below.refl _ _).alloc (Nat.le_refl _) _) hb1⟩

theorem w64_id {x : Int} (h0 : -9223372036854775808 ≤ x) (h1 : x ≤ 9223372036854775807) : wrap64 x = x := by unfold wrap64; omega
theorem band_nat (a b : Nat) (ha : a < 9223372036854775808) (hb : b < 9223372036854775808) : bits .and .i64 (a : Int) (b : Int) = ((a &&& b : Nat) : Int) := by
  have hx : a &&& b < 2 ^ 63 := Nat.and_lt_two_pow _ (by omega)
  have h1 : (BitVec.ofInt 64 (a : Int)).toNat = a := by
    rw [BitVec.ofInt_natCast, BitVec.toNat_ofNat]; exact Nat.mod_eq_of_lt (by omega)
  have h2 : (BitVec.ofInt 64 (b : Int)).toNat = b := by
    rw [BitVec.ofInt_natCast, BitVec.toNat_ofNat]; exact Nat.mod_eq_of_lt (by omega)
  show IntKind.i64.wrap ((BitVec.ofInt 64 (a : Int) &&& BitVec.ofInt 64 (b : Int)).toNat : Int) = _
  rw [BitVec.toNat_and, h1, h2]
  exact IntWalk.i64_in _ (by omega)
theorem bor_nat (a b : Nat) (ha : a < 9223372036854775808) (hb : b < 9223372036854775808) : bits .or .i64 (a : Int) (b : Int) = ((a ||| b : Nat) : Int) := by
  have hx : a ||| b < 2 ^ 63 := Nat.or_lt_two_pow (by omega) (by omega)
  have h1 : (BitVec.ofInt 64 (a : Int)).toNat = a := by
    rw [BitVec.ofInt_natCast, BitVec.toNat_ofNat]; exact Nat.mod_eq_of_lt (by omega)
  have h2 : (BitVec.ofInt 64 (b : Int)).toNat = b := by
    rw [BitVec.ofInt_natCast, BitVec.toNat_ofNat]; exact Nat.mod_eq_of_lt (by omega)
  show IntKind.i64.wrap ((BitVec.ofInt 64 (a : Int) ||| BitVec.ofInt 64 (b : Int)).toNat : Int) = _
  rw [BitVec.toNat_or, h1, h2]
  exact IntWalk.i64_in _ (by omega)
theorem two_nat (k : Nat) : ((2 ^ k : Nat) : Int) = 2 ^ k := by rw [Int.natCast_pow]; rfl
/-- the last bits of a number -/
theorem band_mask {a t : Int} (ha0 : 0 ≤ a) (ha : a ≤ 4503599627370496) (h0 : 0 ≤ t) (h1 : t ≤ 21) : bits .and .i64 a (pw t - 1) = a % pw t := by
  obtain ⟨m, rfl⟩ := Int.eq_ofNat_of_zero_le ha0
  obtain ⟨k, rfl⟩ := Int.eq_ofNat_of_zero_le h0
  have hp := pw_le21 h0 h1
  have hp1 := pw_pos (k : Int)
  rw [pw_nat] at *
  have e : ((2 : Int) ^ k - 1) = ((2 ^ k - 1 : Nat) : Int) := by
    have : 1 ≤ 2 ^ k := Nat.one_le_two_pow
    rw [Int.ofNat_sub this, two_nat]; rfl
  have hk : (2 : Nat) ^ k ≤ 2097152 := by rw [← two_nat k] at hp; omega
  rw [e, band_nat _ _ (by omega) (by omega), Nat.and_two_pow_sub_one_eq_mod, Int.natCast_emod, two_nat]
/-- bits laid above bits -/
theorem bor_above {j y t : Int} (hj0 : 0 ≤ j) (hj : j ≤ 4194304) (h0 : 0 ≤ t) (h1 : t ≤ 21) (hy0 : 0 ≤ y) (hy : y < pw t) : bits .or .i64 (j * pw t) y = j * pw t + y := by
  obtain ⟨m, rfl⟩ := Int.eq_ofNat_of_zero_le hj0
  obtain ⟨k, rfl⟩ := Int.eq_ofNat_of_zero_le h0
  obtain ⟨z, rfl⟩ := Int.eq_ofNat_of_zero_le hy0
  have hp := pw_le21 h0 h1
  rw [pw_nat] at *
  have hk : (2 : Nat) ^ k ≤ 2097152 := by rw [← two_nat k] at hp; omega
  have hz : z < 2 ^ k := by rw [← two_nat k] at hy; omega
  have hm : m * 2 ^ k ≤ 4194304 * 2097152 := Nat.mul_le_mul (by omega) hk
  have e : (m : Int) * 2 ^ k = ((m * 2 ^ k : Nat) : Int) := by rw [Int.natCast_mul, two_nat]
  rw [e, bor_nat _ _ (by omega) (by omega), ← Nat.shiftLeft_eq, ← Nat.shiftLeft_add_eq_or_of_lt hz, Nat.shiftLeft_eq, Int.natCast_add]

theorem ret_pair {a b : Int} {c d : Bool} (h : a = b) (h' : c = d) : Ending.returned (.tuple #[.int .i64 a, .bool c]) = .returned (.tuple #[.int .i64 b, .bool d]) := by rw [h, h']
theorem val_eq {d t u x : Int} (b1 : 0 ≤ d) (b2 : d ≤ 20) (b3 : 1 ≤ t) (b4 : t ≤ 21) (b5 : 0 ≤ u) (b6 : u ≤ 20) (hx0 : 0 ≤ x) (hx1 : x ≤ 2097151) (hv : Hid (0 ≤ pval d t u x ∧ pval d t u x ≤ 67108864)) :
    wrap64 (bits BinOp.and IntKind.i64 (x / 2 ^ d.toNat) (wrap64 (wrap64 (2 ^ t.toNat) - 1)) * 2 ^ u.toNat) = pval d t u x := by
  have hp := pw_le21 (n := t) (by omega) b4
  have hp1 := pw_pos t
  have hd := pw_pos d
  have e1 : (2 : Int) ^ t.toNat = pw t := rfl
  have e2 : (2 : Int) ^ d.toNat = pw d := rfl
  have e3 : (2 : Int) ^ u.toNat = pw u := rfl
  rw [e1, e2, e3, w64_id (x := pw t) (by omega) (by omega), w64_id (x := pw t - 1) (by omega) (by omega)]
  have hq0 : 0 ≤ x / pw d := Int.ediv_nonneg hx0 (by omega)
  have hq1 : x / pw d ≤ x := Int.ediv_le_self _ hx0
  rw [band_mask hq0 (by omega) (by omega) b4]
  have h2 := hv.out
  unfold pval at h2 ⊢
  exact w64_id (by omega) (by omega)

end Go.Proofs.Yticfbbigljgjdaa
