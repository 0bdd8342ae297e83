/- The plain law of UTF-8 that umlautlaw02.WordOf leans on: at each place of a text either a scalar's bytes stand there and are told, or FFFD is told and none stand there. Condition: the place lies in the text. -/
import Derived.Test.YtbllbifkckipdaaWhole
namespace Go.Proofs.Ytbllbifkckipdaa
open Go.RowKit
set_option linter.unusedVariables false

theorem inB2_iff (x : Int) : inB 2 x = true ↔ (0 ≤ x ∧ x ≤ 1114111 ∧ (x < 55296 ∨ 57343 < x)) := by
  simp [inB]; omega
theorem rbytes1 {x : Int} (h0 : 0 ≤ x) (h1 : x < 128) : rbytes x = [x] := by
  unfold rbytes
  rw [if_neg (by rw [Bool.not_eq_false, inB2_iff]; omega), if_pos h1]
theorem rbytes2 {x : Int} (h0 : 128 ≤ x) (h1 : x < 2048) : rbytes x = [192 + x / 64, 128 + x % 64] := by
  unfold rbytes
  rw [if_neg (by rw [Bool.not_eq_false, inB2_iff]; omega), if_neg (by omega), if_pos h1]
theorem rbytes3 {x : Int} (h0 : 2048 ≤ x) (h1 : x < 65536) (h2 : x < 55296 ∨ 57343 < x) : rbytes x = [224 + x / 4096, 128 + x / 64 % 64, 128 + x % 64] := by
  unfold rbytes
  rw [if_neg (by rw [Bool.not_eq_false, inB2_iff]; omega), if_neg (by omega), if_neg (by omega), if_pos h1]
theorem rbytes4 {x : Int} (h0 : 65536 ≤ x) (h1 : x ≤ 1114111) : rbytes x = [240 + x / 262144, 128 + x / 4096 % 64, 128 + x / 64 % 64, 128 + x % 64] := by
  unfold rbytes
  rw [if_neg (by rw [Bool.not_eq_false, inB2_iff]; omega), if_neg (by omega), if_neg (by omega), if_neg (by omega)]
/-- what a list of bytes that is a scalar's says of the scalar -/
theorem rbytes_inv (x : Int) (l : List Int) (h : rbytes x = l) :
    (l = [] ∧ inB 2 x = false) ∨ (l = [x] ∧ 0 ≤ x ∧ x < 128) ∨ (l = [192 + x / 64, 128 + x % 64] ∧ 128 ≤ x ∧ x < 2048) ∨
    (l = [224 + x / 4096, 128 + x / 64 % 64, 128 + x % 64] ∧ 2048 ≤ x ∧ x < 65536 ∧ (x < 55296 ∨ 57343 < x)) ∨ (l = [240 + x / 262144, 128 + x / 4096 % 64, 128 + x / 64 % 64, 128 + x % 64] ∧ 65536 ≤ x ∧ x ≤ 1114111) := by
  subst h
  rcases hb : inB 2 x with _ | _
  · left; unfold rbytes; rw [if_pos hb]; simp
  · rw [inB2_iff] at hb
    right
    by_cases g1 : x < 128
    · left; exact ⟨rbytes1 (by omega) g1, by omega, g1⟩
    right
    by_cases g2 : x < 2048
    · left; exact ⟨rbytes2 (by omega) g2, by omega, g2⟩
    right
    by_cases g3 : x < 65536
    · left; exact ⟨rbytes3 (by omega) g3 (by omega), by omega, g3, by omega⟩
    right
    exact ⟨rbytes4 (by omega) (by omega), by omega, by omega⟩

theorem dec_nat (n b0 b1 b2 b3 : Nat) (hn : 1 ≤ n) (h0 : b0 < 256) (h1 : b1 < 256) (h2 : b2 < 256) (h3 : b3 < 256) :
    ((Lib.decodeN n b0 b1 b2 b3).2 ≤ n ∧ rbytes ((Lib.decodeN n b0 b1 b2 b3).1 : Nat) = ([(b0 : Int), b1, b2, b3]).take (Lib.decodeN n b0 b1 b2 b3).2 ∧ 1 ≤ (Lib.decodeN n b0 b1 b2 b3).2 ∧ (Lib.decodeN n b0 b1 b2 b3).2 ≤ 4) ∨
    (Lib.decodeN n b0 b1 b2 b3 = (65533, 1) ∧ ¬ (3 ≤ n ∧ b0 = 239 ∧ b1 = 191 ∧ b2 = 189) ∧ ¬ b0 < 128 ∧
      (192 ≤ b0 → b0 < 224 → 2 ≤ n → rbytes (64 * ((b0 : Int) - 192) + (b1 : Int) % 64) ≠ [(b0 : Int), b1]) ∧
      (224 ≤ b0 → b0 < 240 → 3 ≤ n → rbytes (64 * (64 * ((b0 : Int) - 224) + (b1 : Int) % 64) + (b2 : Int) % 64) ≠ [(b0 : Int), b1, b2]) ∧
      (240 ≤ b0 → b0 < 248 → 4 ≤ n → rbytes (64 * (64 * (64 * ((b0 : Int) - 240) + (b1 : Int) % 64) + (b2 : Int) % 64) + (b3 : Int) % 64) ≠ [(b0 : Int), b1, b2, b3])) := by
  unfold Lib.decodeN
  split
  · left
    rename_i h
    simp only []
    rw [rbytes1 (by omega) (by omega)]
    simp; omega
  rename_i hn0
  split
  · rename_i h
    split
    · left
      simp only []
      rw [rbytes2 (by omega) (by omega)]
      simp; omega
    · right
      refine ⟨rfl, by omega, by omega, fun _ _ _ he => ?_, fun _ _ _ => by omega, fun _ _ _ => by omega⟩
      rcases rbytes_inv _ _ he with ⟨e, _⟩ | ⟨e, _⟩ | ⟨e, g1, g2⟩ | ⟨e, _⟩ | ⟨e, _⟩ <;> simp at e
      omega
  rename_i hn1
  split
  · rename_i h
    split
    · left
      simp only []
      rw [rbytes3 (by omega) (by omega) (by omega)]
      simp; omega
    · right
      refine ⟨rfl, by omega, by omega, fun _ _ _ => by omega, fun _ _ _ he => ?_, fun _ _ _ => by omega⟩
      rcases rbytes_inv _ _ he with ⟨e, _⟩ | ⟨e, _⟩ | ⟨e, _⟩ | ⟨e, g1, g2, g3⟩ | ⟨e, _⟩ <;> simp at e
      omega
  rename_i hn2
  split
  · rename_i h
    split
    · left
      simp only []
      rw [rbytes4 (by omega) (by omega)]
      simp; omega
    · right
      refine ⟨rfl, by omega, by omega, fun _ _ _ => by omega, fun _ _ _ => by omega, fun _ _ _ he => ?_⟩
      rcases rbytes_inv _ _ he with ⟨e, _⟩ | ⟨e, _⟩ | ⟨e, _⟩ | ⟨e, _⟩ | ⟨e, g1, g2⟩ <;> simp at e
      omega
  rename_i hn3
  right
  refine ⟨rfl, by omega, by omega, fun _ _ _ he => ?_, fun _ _ _ he => ?_, fun _ _ _ he => ?_⟩
  · rcases rbytes_inv _ _ he with ⟨e, _⟩ | ⟨e, _⟩ | ⟨e, g1, g2⟩ | ⟨e, _⟩ | ⟨e, _⟩ <;> simp at e
    omega
  · rcases rbytes_inv _ _ he with ⟨e, _⟩ | ⟨e, _⟩ | ⟨e, _⟩ | ⟨e, g1, g2, g3⟩ | ⟨e, _⟩ <;> simp at e
    omega
  · rcases rbytes_inv _ _ he with ⟨e, _⟩ | ⟨e, _⟩ | ⟨e, _⟩ | ⟨e, _⟩ | ⟨e, g1, g2⟩ <;> simp at e
    omega
theorem bt_get (s : ByteArray) (i : Nat) (h : i < s.size) : bt s i = ((s.get! i).toNat : Int) := by
  rw [← bt_eq s i h]
  have := get_at s i h
  rw [← this]; rfl
theorem bts_take (s : ByteArray) (p n : Nat) (hn : n ≤ 4) (h : p + n ≤ s.size) : bts s p n = ([((s.get! p).toNat : Int), (s.get! (p + 1)).toNat, (s.get! (p + 2)).toNat, (s.get! (p + 3)).toNat]).take n := by
  have e : ∀ i, i < n → bt s (p + i) = ((s.get! (p + i)).toNat : Int) := fun i hi => bt_get s _ (by omega)
  have e0 : 0 < n → bt s p = ((s.get! p).toNat : Int) := fun hi => bt_get s _ (by omega)
  unfold bts
  match n, hn with
  | 0, _ => rfl
  | 1, _ => simp [List.range_succ, e0 (by omega)]
  | 2, _ => simp [List.range_succ, e0 (by omega), e 1 (by omega)]
  | 3, _ => simp [List.range_succ, e0 (by omega), e 1 (by omega), e 2 (by omega)]
  | 4, _ => simp [List.range_succ, e0 (by omega), e 1 (by omega), e 2 (by omega), e 3 (by omega)]

theorem dec_case (s : ByteArray) (p : Nat) (hp : p < s.size) :
    (p + (Utf8.decode s p).2 ≤ s.size ∧ rbytes ((Utf8.decode s p).1 : Nat) = bts s p (Utf8.decode s p).2 ∧ 1 ≤ (Utf8.decode s p).2 ∧ (Utf8.decode s p).2 ≤ 4) ∨
    (Utf8.decode s p = (65533, 1) ∧ ¬ (p + 3 ≤ s.size ∧ [239, 191, 189] = bts s p 3) ∧ wholeB s p = false) := by
  have hd := dec_nat (s.size - p) (s.get! p).toNat (s.get! (p + 1)).toNat (s.get! (p + 2)).toNat (s.get! (p + 3)).toNat (by omega) (UInt8.toNat_lt _) (UInt8.toNat_lt _) (UInt8.toNat_lt _) (UInt8.toNat_lt _)
  rw [← Lib.decode_at s p] at hd
  rcases hd with ⟨h1, h2, h3, h4⟩ | ⟨h1, h2, h3, h4, h5, h6⟩
  · left
    exact ⟨by omega, by rw [bts_take s p _ h4 (by omega)]; exact h2, h3, h4⟩
  · right
    refine ⟨h1, ?_, ?_⟩
    · rintro ⟨g, e⟩
      rw [bts_take s p 3 (by omega) g] at e
      simp at e
      exact h2 (by omega)
    · have b0 := bt_get s p hp
      unfold wholeB
      rw [b0]
      simp only []
      rw [if_neg (by omega)]
      split
      · rename_i g
        by_cases hh : p + 2 ≤ s.size
        · have := h4 (by omega) (by omega) (by omega)
          rw [bts_take s p 2 (by omega) hh]
          simp only [accX, Nat.zero_add]
          rw [bt_get s (p + 1) (by omega)]
          rw [Bool.and_eq_false_iff, decide_eq_false_iff_not, decide_eq_false_iff_not]
          exact .inr this
        · simp [hh]
      split
      · rename_i g
        by_cases hh : p + 3 ≤ s.size
        · have := h5 (by omega) (by omega) (by omega)
          rw [bts_take s p 3 (by omega) hh]
          simp only [accX, Nat.zero_add]
          rw [bt_get s (p + 1) (by omega), bt_get s (p + (1 + 1)) (by omega)]
          rw [Bool.and_eq_false_iff, decide_eq_false_iff_not, decide_eq_false_iff_not]
          exact .inr this
        · simp [hh]
      split
      · rename_i g
        by_cases hh : p + 4 ≤ s.size
        · have := h6 (by omega) (by omega) (by omega)
          rw [bts_take s p 4 (by omega) hh]
          simp only [accX, Nat.zero_add]
          rw [bt_get s (p + 1) (by omega), bt_get s (p + (1 + 1)) (by omega), bt_get s (p + (2 + 1)) (by omega)]
          rw [Bool.and_eq_false_iff, decide_eq_false_iff_not, decide_eq_false_iff_not]
          exact .inr this
        · simp [hh]
      rfl
end Go.Proofs.Ytbllbifkckipdaa
