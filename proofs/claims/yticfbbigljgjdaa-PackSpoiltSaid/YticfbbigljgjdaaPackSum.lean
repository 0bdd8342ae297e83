/- Contracts of pack.Sum and umlautref18.Sum: the check of bytes. Condition: the bytes are known. -/
import Derived.Test.YticfbbigljgjdaaTabNode
namespace Go.Proofs.Yticfbbigljgjdaa
open Go.RowKit
set_option linter.unusedVariables false
set_option linter.unusedSimpArgs false
/-- a slice of bytes -/
def BytesAt (A : Option Addr) (l : List Int) (W : World) : Prop := RowsAt 1 (fun x => [Value.int .u8 x]) (fun x _ => 0 ≤ x ∧ x < 256) A l W
theorem BytesAt.below {A : Option Addr} {l : List Int} {w w' : World} (h : BytesAt A l w) (hb : Below w.heap.size w w') : BytesAt A l w' := RowsAt.below h (fun _ _ _ h _ => h) hb
theorem BytesAt.u8 {A : Option Addr} {l : List Int} {w : World} (h : BytesAt A l w) : U8s l := h.it
theorem BytesAt.at_ {A : Option Addr} {l : List Int} {W : World} (h : BytesAt A l W) {j : Nat} (hj : j < l.length) : ∃ b off x, A = some ⟨b, off, none⟩ ∧ l[j]? = some x ∧ 0 ≤ x ∧ x < 256 ∧ W.cell? ⟨b, off + j, none⟩ = some (.int .u8 x) := by
  obtain ⟨b, off, p, hA, hp, hc, hw⟩ := RowsAt.at_ h (fun _ => rfl) hj
  have := hc 0 _ rfl
  rw [Nat.mul_one, Nat.add_zero] at this
  exact ⟨b, off, p, hA, hp, hw.1, hw.2, this⟩
theorem bytes_cells (l : List Int) : l.flatMap (fun x => [Value.int .u8 x]) = l.map (Value.int .u8) := by
  induction l with
  | nil => rfl
  | cons x l ih => rw [List.flatMap_cons, ih]; rfl
theorem BytesAt.of_own {w : World} {base : Nat} {e : TypeId} {A : Option Addr} {c : Nat} {l : List Int} (h : w.ownsRow base e 1 (.slice A l.length c) l.length (l.map (Value.int .u8))) (hu : U8s l) (hl : l.length ≤ 9223372036854775807) : BytesAt A l w :=
  ⟨by rw [bytes_cells]; exact Sl.of_own h, hu, hl⟩
theorem fnv_take {l : List Int} {k : Nat} {x : Int} (h : l[k]? = some x) : fnvL (l.take (k + 1)) = fnvStep (fnvL (l.take k)) x := by rw [take_snoc? h, fnvL_snoc]
theorem bxor32 (a : Nat) (x : Int) (ha : a < 4294967296) (h0 : 0 ≤ x) (h1 : x < 256) : bits .xor .u32 (a : Int) x = ((a ^^^ x.toNat : Nat) : Int) := by
  obtain ⟨b, rfl⟩ := Int.eq_ofNat_of_zero_le h0
  have hx : a ^^^ b < 2 ^ 32 := Nat.xor_lt_two_pow (by omega) (by omega)
  have e1 : (BitVec.ofInt 32 (a : Int)).toNat = a := by
    rw [BitVec.ofInt_natCast, BitVec.toNat_ofNat]; exact Nat.mod_eq_of_lt (by omega)
  have e2 : (BitVec.ofInt 32 (b : Int)).toNat = b := by
    rw [BitVec.ofInt_natCast, BitVec.toNat_ofNat]; exact Nat.mod_eq_of_lt (by omega)
  show IntKind.u32.wrap ((BitVec.ofInt 32 (a : Int) ^^^ BitVec.ofInt 32 (b : Int)).toNat : Int) = _
  rw [BitVec.toNat_xor, e1, e2, Int.toNat_natCast]
  show ((a ^^^ b : Nat) : Int) % 4294967296 = _
  omega
theorem bxor64 (a : Nat) (x : Int) (ha : a < 4294967296) (h0 : 0 ≤ x) (h1 : x < 256) : bits .xor .u64 (a : Int) x = ((a ^^^ x.toNat : Nat) : Int) := by
  obtain ⟨b, rfl⟩ := Int.eq_ofNat_of_zero_le h0
  have hx : a ^^^ b < 2 ^ 32 := Nat.xor_lt_two_pow (by omega) (by omega)
  have e1 : (BitVec.ofInt 64 (a : Int)).toNat = a := by
    rw [BitVec.ofInt_natCast, BitVec.toNat_ofNat]; exact Nat.mod_eq_of_lt (by omega)
  have e2 : (BitVec.ofInt 64 (b : Int)).toNat = b := by
    rw [BitVec.ofInt_natCast, BitVec.toNat_ofNat]; exact Nat.mod_eq_of_lt (by omega)
  show IntKind.u64.wrap ((BitVec.ofInt 64 (a : Int) ^^^ BitVec.ofInt 64 (b : Int)).toNat : Int) = _
  rw [BitVec.toNat_xor, e1, e2, Int.toNat_natCast]
  show ((a ^^^ b : Nat) : Int) % 18446744073709551616 = _
  omega
set_option maxHeartbeats 4000000 in
theorem Sum_any (A : Option Addr) (c : Nat) (l : List Int) (w : World) (h : BytesAt A l w) : Calls Try.prog 12 #[.slice A l.length c] w fun e w' => e = .returned (.int .u32 (fnvL l : Nat)) ∧ w = w' := by
  have hln := h.ln
  have HL := Lib.hid h
  clear h
  go_enter Try.func12, Try.ntmps12
  go_wp2_with fail
  go_loop [3, 8] (fun s i => ∃ (k n : Nat), k ≤ l.length ∧ i = .int .i64 k ∧ s = .int .u32 (n : Int) ∧ n < 4294967296 ∧ Hid (n = fnvL (l.take k))) (fun _ i => l.length - (intOf i).toNat)
  case atStart => exact ⟨0, 2166136261, Nat.zero_le _, rfl, rfl, by decide, Lib.hid rfl⟩
  case round =>
  obtain ⟨k, n, hk, rfl, rfl, hn, HN⟩ := hrel
  by_cases hlt : k < l.length
  · obtain ⟨b, off, x, rfl, hx, h0, h1, hc⟩ := HL.out.at_ hlt
    have HN2 : Hid (fnvStep n x = fnvL (l.take (k + 1))) := Lib.hid (by rw [fnv_take hx, HN.out])
    clear hx
    go_wp2_with fail
    exact ⟨⟨k + 1, fnvStep n x, by omega, by go_num, by rw [bxor32 n x hn h0 h1]; unfold fnvStep; rw [Int.natCast_emod, Int.natCast_mul]; rfl, fnvStep_lt _ _, HN2⟩, by simp [intOf]; omega⟩
  · obtain rfl : k = l.length := by omega
    have hd : decide (l.length < l.length) = false := by simp
    have HE : Hid ((n : Int) = (fnvL l : Nat)) := Lib.hid (by rw [HN.out, List.take_length])
    go_wp2_with fail
    go_ret
    exact ⟨congrArg (fun u => Ending.returned (.int .u32 u)) HE.out, rfl⟩
/-- only the lowest byte meets the new one -/
theorem xor_low (n b : Nat) (hb : b < 256) : n ^^^ b = (n - n % 256) + ((n % 256) ^^^ b) := by
  have h1 : (n ^^^ b) % 256 = (n % 256) ^^^ (b % 256) := by
    have := Nat.xor_mod_two_pow (a := n) (b := b) (n := 8)
    simpa using this
  have h2 : (n ^^^ b) / 256 = (n / 256) ^^^ (b / 256) := by
    have := Nat.xor_div_two_pow (a := n) (b := b) (n := 8)
    simpa using this
  rw [Nat.mod_eq_of_lt hb] at h1
  rw [Nat.div_eq_of_lt hb, Nat.xor_zero] at h2
  have h3 := Nat.div_add_mod (n ^^^ b) 256
  have h4 := Nat.div_add_mod n 256
  rw [h1, h2] at h3
  omega
set_option maxHeartbeats 4000000 in
theorem rSum_any (A : Option Addr) (c : Nat) (l : List Int) (w : World) (h : BytesAt A l w) : Calls Try.prog 13 #[.slice A l.length c] w fun e w' => e = .returned (.int .u32 (fnvL l : Nat)) ∧ w = w' := by
  have hln := h.ln
  have HL := Lib.hid h
  clear h
  go_enter Try.func13, Try.ntmps13
  go_wp2_with fail
  go_loop [3, 4] (fun s i => ∃ (k n : Nat), k ≤ l.length ∧ i = .int .i64 k ∧ s = .int .u64 (n : Int) ∧ n < 4294967296 ∧ Hid (n = fnvL (l.take k))) (fun _ i => l.length - (intOf i).toNat)
  case atStart => exact ⟨0, 2166136261, Nat.zero_le _, rfl, rfl, by decide, Lib.hid rfl⟩
  case round =>
  obtain ⟨k, n, hk, rfl, rfl, hn, HN⟩ := hrel
  by_cases hlt : k < l.length
  · obtain ⟨b, off, x, rfl, hx, h0, h1, hc⟩ := HL.out.at_ hlt
    have HN2 : Hid (fnvStep n x = fnvL (l.take (k + 1))) := Lib.hid (by rw [fnv_take hx, HN.out])
    obtain ⟨m, hm⟩ : ∃ m : Nat, n % 256 = m := ⟨_, rfl⟩
    have hmi : (n : Int) % 256 = (m : Int) := by omega
    have hm1 : m < 256 := by omega
    have hmn : m ≤ n := by omega
    obtain ⟨q, hq⟩ : ∃ q : Nat, m ^^^ x.toNat = q := ⟨_, rfl⟩
    have hq1 : q < 256 := by rw [← hq]; exact Nat.xor_lt_two_pow (n := 8) hm1 (by omega)
    have hxq : bits .xor .u64 (m : Int) x = (q : Int) := by rw [bxor64 m x (by omega) h0 h1, hq]
    have HS : Hid ((((n : Int) - m + q) * 16777619) % 4294967296 = (fnvStep n x : Nat)) := Lib.hid (by
      have h3 := xor_low n x.toNat (by omega)
      rw [hm, hq] at h3
      unfold fnvStep
      rw [h3, Int.natCast_emod, Int.natCast_mul, Int.natCast_add, Int.natCast_sub hmn]
      rfl)
    clear hx hm hq
    go_wp2_with fail
    exact ⟨⟨k + 1, fnvStep n x, by omega, by go_num, by rw [HS.out], fnvStep_lt _ _, HN2⟩, by simp [intOf]; omega⟩
  · obtain rfl : k = l.length := by omega
    have hd : decide (l.length < l.length) = false := by simp
    have HE : Hid ((n : Int) = (fnvL l : Nat)) := Lib.hid (by rw [HN.out, List.take_length])
    go_wp2_with fail
    go_ret
    exact ⟨congrArg (fun u => Ending.returned (.int .u32 u)) HE.out, rfl⟩
end Go.Proofs.Yticfbbigljgjdaa
