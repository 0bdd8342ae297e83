/- Contract of umlautlaw02.whole: do some scalar's bytes stand at a place of a text? Condition: the place lies in the text. -/
import Derived.Test.YtbllbifkckipdaaRBytes
import Derived.Deep.RegionWith
import Derived.Lib.Strings
namespace Go.Proofs.Ytbllbifkckipdaa
open Go.RowKit
set_option linter.unusedVariables false

/-- the byte at a place -/
def bt (s : ByteArray) (k : Nat) : Int := if h : k < s.size then ((s[k]'h).toNat : Int) else 0
theorem bt_eq (s : ByteArray) (k : Nat) (h : k < s.size) : ((s[k]'h).toNat : Int) = bt s k := by unfold bt; rw [dif_pos h]
theorem bt_bound (s : ByteArray) (k : Nat) : 0 ≤ bt s k ∧ bt s k ≤ 255 := by
  unfold bt
  split
  · have := UInt8.toNat_lt (s[k]); omega
  · omega
def accX (s : ByteArray) (p : Nat) (x0 : Int) : Nat → Int
  | 0 => x0
  | k + 1 => 64 * accX s p x0 k + bt s (p + (k + 1)) % 64
theorem accX_bound (s : ByteArray) (p : Nat) (x0 : Int) (h0 : 0 ≤ x0) (h1 : x0 < 32) (k : Nat) (hk : k ≤ 3) : 0 ≤ accX s p x0 k ∧ accX s p x0 k < 8388608 := by
  have b1 := bt_bound s (p + (0 + 1))
  have b2 := bt_bound s (p + (1 + 1))
  have b3 := bt_bound s (p + (2 + 1))
  match k, hk with
  | 0, _ => simp only [accX]; omega
  | 1, _ => simp only [accX]; omega
  | 2, _ => simp only [accX]; omega
  | 3, _ => simp only [accX]; omega
/-- the bytes from a place on -/
def bts (s : ByteArray) (p n : Nat) : List Int := (List.range n).map fun i => bt s (p + i)
def wholeB (s : ByteArray) (p : Nat) : Bool :=
  let c := bt s p
  if c < 128 then true
  else if 192 ≤ c ∧ c < 224 then decide (p + 2 ≤ s.size) && decide (rbytes (accX s p (c - 192) 1) = bts s p 2)
  else if 224 ≤ c ∧ c < 240 then decide (p + 3 ≤ s.size) && decide (rbytes (accX s p (c - 224) 2) = bts s p 3)
  else if 240 ≤ c ∧ c < 248 then decide (p + 4 ≤ s.size) && decide (rbytes (accX s p (c - 240) 3) = bts s p 4)
  else false
theorem strOf_eq (xs : List Int) (hx : ∀ x ∈ xs, 0 ≤ x ∧ x ≤ 255) (s : ByteArray) (p n : Nat) (h : p + n ≤ s.size) :
    ((strOfNums xs).toList == (s.extract p (p + n)).toList) = decide (xs = bts s p n) := by
  rw [Bool.eq_iff_iff, beq_iff_eq, decide_eq_true_eq, ByteArray.toList_eq, Lib.extract_toList, strOfNums_data]
  have hl : s.data.toList.length = s.size := (Lib.size_eq s).symm
  have hb : ((s.data.toList.drop p).take (p + n - p)).map (fun u : UInt8 => (u.toNat : Int)) = bts s p n := by
    apply List.ext_getElem?
    intro i
    simp only [bts, List.getElem?_map, List.getElem?_take, List.getElem?_drop]
    by_cases hi : i < n
    · rw [if_pos (by omega), List.getElem?_eq_getElem (by omega), List.getElem?_range hi]
      simp only [Option.map_some, Option.some.injEq]
      rw [← bt_eq s (p + i) (by omega)]
      rfl
    · rw [if_neg (by omega), List.getElem?_eq_none (by simpa using hi)]; rfl
  constructor
  · intro e
    rw [← hb, ← e, List.map_map]
    rw [show xs.map (((fun u : UInt8 => (u.toNat : Int))) ∘ fun n : Int => UInt8.ofNat n.toNat) = xs.map id from List.map_congr_left fun x hm => ?_]
    · simp
    · have := hx x hm
      simp only [Function.comp, id, UInt8.toNat_ofNat']
      omega
  · rintro rfl
    rw [← hb, List.map_map]
    conv => rhs; rw [← List.map_id ((s.data.toList.drop p).take (p + n - p))]
    apply List.map_congr_left
    intro u _
    simp

theorem run_index_bt (t : TypeId) (ht : Try.prog.underlying t = some .string) (s : ByteArray) (i : Int) (k : Nat) (hk : i = k) (h : k < s.size) (w : World) : (Instr.index t (.string s) (.int .i64 i)).run Try.prog w = .ok (.int .u8 (bt s k)) w := by
  subst hk
  rw [← bt_eq s k h]
  go_simp

theorem run_slice_str (t : TypeId) (ht : Try.prog.underlying t = some .string) (s : ByteArray) (p n : Nat) (h : p + n ≤ s.size) (i j : Int) (hi : i = p) (hj : j = p + n) (w : World) : (Instr.slice t (.string s) (some (.int .i64 i)) (some (.int .i64 j)) none).run Try.prog w = .ok (.string (s.extract p (p + n))) w := by
  subst hi
  have : j = ((p + n : Nat) : Int) := by omega
  subst this
  go_simp
  rw [if_pos ⟨by omega, by omega⟩, if_pos (by omega), show ((p : Int) + (n : Int)).toNat = p + n from by omega]
theorem run_conv_i32 (t t' : TypeId) (ht : Try.prog.underlying t = some (.int .i64)) (ht' : Try.prog.underlying t' = some (.int .i32)) (x : Int) (h0 : -2147483648 ≤ x) (h1 : x ≤ 2147483647) (w : World) : (convert t t' (.int .i64 x)).run Try.prog w = .ok (.int .i32 x) w := by
  go_simp
  rw [IntKind.wrap_i32]; omega

theorem Whole_low (s : ByteArray) (p : Nat) (hp : p < s.size) (hs : s.size ≤ 1099511627776) (h : bt s p < 128 ∨ (128 ≤ bt s p ∧ bt s p < 192) ∨ 248 ≤ bt s p) (w : World) : Gives Try.prog 21 #[.string s, .int .i64 p] w (.bool (wholeB s p)) := by
  have hB : wholeB s p = decide (bt s p < 128) := by
    unfold wholeB
    rcases h with h | ⟨h, h'⟩ | h
    · simp [h]
    · rw [if_neg (by omega), if_neg (by omega), if_neg (by omega), if_neg (by omega)]; simp; omega
    · rw [if_neg (by omega), if_neg (by omega), if_neg (by omega), if_neg (by omega)]; simp; omega
  rw [hB]
  have hix := run_index_bt 9 Try.underlying9 s p p rfl hp
  obtain ⟨hb0, hb1⟩ := bt_bound s p
  generalize bt s p = c at *
  clear hB
  unfold Gives
  rcases h with h | ⟨h, h'⟩ | h
  · go_enter Try.func21, Try.ntmps21
    go_wp2_with fail
    go_ret
    exact ⟨ret_bool (by simp; omega), Below.refl _ _⟩
  · go_enter Try.func21, Try.ntmps21
    go_wp2_with fail
    go_ret
    exact ⟨ret_bool (by simp; omega), Below.refl _ _⟩
  · go_enter Try.func21, Try.ntmps21
    go_wp2_with fail
    go_ret
    exact ⟨ret_bool (by simp; omega), Below.refl _ _⟩

theorem Whole_short2 (s : ByteArray) (p : Nat) (hp : p < s.size) (hs : s.size ≤ 1099511627776) (h : 192 ≤ bt s p ∧ bt s p < 224) (hsh : s.size < p + 2) (w : World) : Gives Try.prog 21 #[.string s, .int .i64 p] w (.bool (wholeB s p)) := by
  have hB : wholeB s p = false := by
    unfold wholeB
    rw [if_neg (by omega), if_pos (by omega)]
    simp; omega
  rw [hB]
  have hix := run_index_bt 9 Try.underlying9 s p p rfl hp
  generalize bt s p = c at *
  clear hB
  obtain ⟨h1, h2⟩ := h
  unfold Gives
  go_enter Try.func21, Try.ntmps21
  go_wp2_with fail
  go_ret
  exact ⟨rfl, Below.refl _ _⟩

set_option maxRecDepth 100000 in
set_option maxHeartbeats 2000000 in
theorem Whole_full2 (s : ByteArray) (p : Nat) (hp : p < s.size) (hs : s.size ≤ 1099511627776) (h : 192 ≤ bt s p ∧ bt s p < 224) (hsh : p + 2 ≤ s.size) (w : World) : Gives Try.prog 21 #[.string s, .int .i64 p] w (.bool (wholeB s p)) := by
  have hB : wholeB s p = decide (rbytes (accX s p (bt s p - 192) 1) = bts s p 2) := by
    unfold wholeB
    rw [if_neg (by omega), if_pos (by omega)]
    simp [hsh]
  rw [hB]
  have hacc := fun k hk => accX_bound s p (bt s p - 192) (by omega) (by omega) k hk
  have HX : Hid (∀ k, accX s p (bt s p - 192) (k + 1) = 64 * accX s p (bt s p - 192) k + bt s (p + (k + 1)) % 64) := fun _ => rfl
  have H0 : Hid (accX s p (bt s p - 192) 0 = bt s p - 192) := rfl
  have HC := Lib.hid hacc
  have HE := Lib.hid (strOf_eq (rbytes (accX s p (bt s p - 192) 1)) (rbytes_small _) s p 2 hsh)
  generalize accX s p (bt s p - 192) = X at *
  have hix := run_index_bt 9 Try.underlying9 s p p rfl hp
  generalize bt s p = c at *
  clear hB hacc
  obtain ⟨h1, h2⟩ := h
  unfold Gives
  go_enter Try.func21, Try.ntmps21
  go_wp2_with fail
  go_loop [7, 8] (fun x i => ∃ k : Nat, k < 2 ∧ i = .int .i64 (k + 1 : Nat) ∧ x = .int .i64 (X k)) (fun _ i => 5 - (intOf i).toNat)
  case atStart => exact ⟨0, by omega, rfl, by rw [H0.out]⟩
  case round =>
    obtain ⟨k, hk, rfl, rfl⟩ := hrel
    obtain ⟨hx0, hx1⟩ := HC.out k (by omega)
    by_cases hlt : k + 1 < 2
    · have hin : p + (k + 1) < s.size := by omega
      have hnx := Lib.hid (HX.out k)
      have hix2 := run_index_bt 9 Try.underlying9 s ((p : Int) + ((k : Int) + 1)) (p + (k + 1)) (by omega) hin
      obtain ⟨hb0, hb1⟩ := bt_bound s (p + (k + 1))
      generalize bt s (p + (k + 1)) = c2 at *
      clear hix
      generalize X k = x at *
      go_wp2_with fail
      go_round
      case rel => exact ⟨k + 1, by omega, by go_num, by rw [hnx.out]⟩
      case measure => simp [intOf]; omega
    · obtain rfl : k = 1 := by omega
      generalize hgx : X 1 = x at *
      have HGX := Lib.hid hgx
      clear hgx
      clear hlt hk
      go_wp2_with fail
      have hwr : IntKind.i64.wrap ((p : Int) + 2) = (p : Int) + 2 := IntWalk.i64_in _ (by omega)
      have hsl := run_slice_str 9 Try.underlying9 s p 2 hsh p (p + 2) rfl rfl
      have hco := run_conv_i32 3 21 Try.underlying3 Try.underlying21 x (by omega) (by omega)
      go_region_with (go_at_call 20; refine (rBytes_any _ _).mono ?_; rintro e w2 ⟨A, n, c', rfl, hA, hnc, hc, hbw⟩; have hcv := run_conv_str (P := Try.prog) w2 25 5 Try.underlying25 Try.underlying5 A n c' _ hA 9 Try.underlying9)
      go_wp2_with fail
      go_ret
      exact ⟨ret_bool (by rw [HE.out, HGX.out]), ((Below.refl _ w).drew).trans hbw⟩

theorem Whole_short3 (s : ByteArray) (p : Nat) (hp : p < s.size) (hs : s.size ≤ 1099511627776) (h : 224 ≤ bt s p ∧ bt s p < 240) (hsh : s.size < p + 3) (w : World) : Gives Try.prog 21 #[.string s, .int .i64 p] w (.bool (wholeB s p)) := by
  have hB : wholeB s p = false := by
    unfold wholeB
    rw [if_neg (by omega), if_neg (by omega), if_pos (by omega)]
    simp; omega
  rw [hB]
  have hix := run_index_bt 9 Try.underlying9 s p p rfl hp
  generalize bt s p = c at *
  clear hB
  obtain ⟨h1, h2⟩ := h
  unfold Gives
  go_enter Try.func21, Try.ntmps21
  go_wp2_with fail
  go_ret
  exact ⟨rfl, Below.refl _ _⟩

set_option maxRecDepth 100000 in
set_option maxHeartbeats 2000000 in
theorem Whole_full3 (s : ByteArray) (p : Nat) (hp : p < s.size) (hs : s.size ≤ 1099511627776) (h : 224 ≤ bt s p ∧ bt s p < 240) (hsh : p + 3 ≤ s.size) (w : World) : Gives Try.prog 21 #[.string s, .int .i64 p] w (.bool (wholeB s p)) := by
  have hB : wholeB s p = decide (rbytes (accX s p (bt s p - 224) 2) = bts s p 3) := by
    unfold wholeB
    rw [if_neg (by omega), if_neg (by omega), if_pos (by omega)]
    simp [hsh]
  rw [hB]
  have hacc := fun k hk => accX_bound s p (bt s p - 224) (by omega) (by omega) k hk
  have HX : Hid (∀ k, accX s p (bt s p - 224) (k + 1) = 64 * accX s p (bt s p - 224) k + bt s (p + (k + 1)) % 64) := fun _ => rfl
  have H0 : Hid (accX s p (bt s p - 224) 0 = bt s p - 224) := rfl
  have HC := Lib.hid hacc
  have HE := Lib.hid (strOf_eq (rbytes (accX s p (bt s p - 224) 2)) (rbytes_small _) s p 3 hsh)
  generalize accX s p (bt s p - 224) = X at *
  have hix := run_index_bt 9 Try.underlying9 s p p rfl hp
  generalize bt s p = c at *
  clear hB hacc
  obtain ⟨h1, h2⟩ := h
  unfold Gives
  go_enter Try.func21, Try.ntmps21
  go_wp2_with fail
  go_loop [7, 8] (fun x i => ∃ k : Nat, k < 3 ∧ i = .int .i64 (k + 1 : Nat) ∧ x = .int .i64 (X k)) (fun _ i => 5 - (intOf i).toNat)
  case atStart => exact ⟨0, by omega, rfl, by rw [H0.out]⟩
  case round =>
    obtain ⟨k, hk, rfl, rfl⟩ := hrel
    obtain ⟨hx0, hx1⟩ := HC.out k (by omega)
    by_cases hlt : k + 1 < 3
    · have hin : p + (k + 1) < s.size := by omega
      have hnx := Lib.hid (HX.out k)
      have hix2 := run_index_bt 9 Try.underlying9 s ((p : Int) + ((k : Int) + 1)) (p + (k + 1)) (by omega) hin
      obtain ⟨hb0, hb1⟩ := bt_bound s (p + (k + 1))
      generalize bt s (p + (k + 1)) = c2 at *
      clear hix
      generalize X k = x at *
      go_wp2_with fail
      go_round
      case rel => exact ⟨k + 1, by omega, by go_num, by rw [hnx.out]⟩
      case measure => simp [intOf]; omega
    · obtain rfl : k = 2 := by omega
      generalize hgx : X 2 = x at *
      have HGX := Lib.hid hgx
      clear hgx
      clear hlt hk
      go_wp2_with fail
      have hwr : IntKind.i64.wrap ((p : Int) + 3) = (p : Int) + 3 := IntWalk.i64_in _ (by omega)
      have hsl := run_slice_str 9 Try.underlying9 s p 3 hsh p (p + 3) rfl rfl
      have hco := run_conv_i32 3 21 Try.underlying3 Try.underlying21 x (by omega) (by omega)
      go_region_with (go_at_call 20; refine (rBytes_any _ _).mono ?_; rintro e w2 ⟨A, n, c', rfl, hA, hnc, hc, hbw⟩; have hcv := run_conv_str (P := Try.prog) w2 25 5 Try.underlying25 Try.underlying5 A n c' _ hA 9 Try.underlying9)
      go_wp2_with fail
      go_ret
      exact ⟨ret_bool (by rw [HE.out, HGX.out]), ((Below.refl _ w).drew).trans hbw⟩

theorem Whole_short4 (s : ByteArray) (p : Nat) (hp : p < s.size) (hs : s.size ≤ 1099511627776) (h : 240 ≤ bt s p ∧ bt s p < 248) (hsh : s.size < p + 4) (w : World) : Gives Try.prog 21 #[.string s, .int .i64 p] w (.bool (wholeB s p)) := by
  have hB : wholeB s p = false := by
    unfold wholeB
    rw [if_neg (by omega), if_neg (by omega), if_neg (by omega), if_pos (by omega)]
    simp; omega
  rw [hB]
  have hix := run_index_bt 9 Try.underlying9 s p p rfl hp
  generalize bt s p = c at *
  clear hB
  obtain ⟨h1, h2⟩ := h
  unfold Gives
  go_enter Try.func21, Try.ntmps21
  go_wp2_with fail
  go_ret
  exact ⟨rfl, Below.refl _ _⟩

set_option maxRecDepth 100000 in
set_option maxHeartbeats 2000000 in
theorem Whole_full4 (s : ByteArray) (p : Nat) (hp : p < s.size) (hs : s.size ≤ 1099511627776) (h : 240 ≤ bt s p ∧ bt s p < 248) (hsh : p + 4 ≤ s.size) (w : World) : Gives Try.prog 21 #[.string s, .int .i64 p] w (.bool (wholeB s p)) := by
  have hB : wholeB s p = decide (rbytes (accX s p (bt s p - 240) 3) = bts s p 4) := by
    unfold wholeB
    rw [if_neg (by omega), if_neg (by omega), if_neg (by omega), if_pos (by omega)]
    simp [hsh]
  rw [hB]
  have hacc := fun k hk => accX_bound s p (bt s p - 240) (by omega) (by omega) k hk
  have HX : Hid (∀ k, accX s p (bt s p - 240) (k + 1) = 64 * accX s p (bt s p - 240) k + bt s (p + (k + 1)) % 64) := fun _ => rfl
  have H0 : Hid (accX s p (bt s p - 240) 0 = bt s p - 240) := rfl
  have HC := Lib.hid hacc
  have HE := Lib.hid (strOf_eq (rbytes (accX s p (bt s p - 240) 3)) (rbytes_small _) s p 4 hsh)
  generalize accX s p (bt s p - 240) = X at *
  have hix := run_index_bt 9 Try.underlying9 s p p rfl hp
  generalize bt s p = c at *
  clear hB hacc
  obtain ⟨h1, h2⟩ := h
  unfold Gives
  go_enter Try.func21, Try.ntmps21
  go_wp2_with fail
  go_loop [7, 8] (fun x i => ∃ k : Nat, k < 4 ∧ i = .int .i64 (k + 1 : Nat) ∧ x = .int .i64 (X k)) (fun _ i => 5 - (intOf i).toNat)
  case atStart => exact ⟨0, by omega, rfl, by rw [H0.out]⟩
  case round =>
    obtain ⟨k, hk, rfl, rfl⟩ := hrel
    obtain ⟨hx0, hx1⟩ := HC.out k (by omega)
    by_cases hlt : k + 1 < 4
    · have hin : p + (k + 1) < s.size := by omega
      have hnx := Lib.hid (HX.out k)
      have hix2 := run_index_bt 9 Try.underlying9 s ((p : Int) + ((k : Int) + 1)) (p + (k + 1)) (by omega) hin
      obtain ⟨hb0, hb1⟩ := bt_bound s (p + (k + 1))
      generalize bt s (p + (k + 1)) = c2 at *
      clear hix
      generalize X k = x at *
      go_wp2_with fail
      go_round
      case rel => exact ⟨k + 1, by omega, by go_num, by rw [hnx.out]⟩
      case measure => simp [intOf]; omega
    · obtain rfl : k = 3 := by omega
      generalize hgx : X 3 = x at *
      have HGX := Lib.hid hgx
      clear hgx
      clear hlt hk
      go_wp2_with fail
      have hwr : IntKind.i64.wrap ((p : Int) + 4) = (p : Int) + 4 := IntWalk.i64_in _ (by omega)
      have hsl := run_slice_str 9 Try.underlying9 s p 4 hsh p (p + 4) rfl rfl
      have hco := run_conv_i32 3 21 Try.underlying3 Try.underlying21 x (by omega) (by omega)
      go_region_with (go_at_call 20; refine (rBytes_any _ _).mono ?_; rintro e w2 ⟨A, n, c', rfl, hA, hnc, hc, hbw⟩; have hcv := run_conv_str (P := Try.prog) w2 25 5 Try.underlying25 Try.underlying5 A n c' _ hA 9 Try.underlying9)
      go_wp2_with fail
      go_ret
      exact ⟨ret_bool (by rw [HE.out, HGX.out]), ((Below.refl _ w).drew).trans hbw⟩

theorem Whole_any (s : ByteArray) (p : Nat) (hp : p < s.size) (hs : s.size ≤ 1099511627776) (w : World) : Gives Try.prog 21 #[.string s, .int .i64 p] w (.bool (wholeB s p)) := by
  have hb := bt_bound s p
  by_cases h0 : bt s p < 128 ∨ (128 ≤ bt s p ∧ bt s p < 192) ∨ 248 ≤ bt s p
  · exact Whole_low s p hp hs h0 w
  by_cases h2 : bt s p < 224
  · by_cases hh : p + 2 ≤ s.size
    · exact Whole_full2 s p hp hs (by omega) hh w
    · exact Whole_short2 s p hp hs (by omega) (by omega) w
  by_cases h3 : bt s p < 240
  · by_cases hh : p + 3 ≤ s.size
    · exact Whole_full3 s p hp hs (by omega) hh w
    · exact Whole_short3 s p hp hs (by omega) (by omega) w
  by_cases hh : p + 4 ≤ s.size
  · exact Whole_full4 s p hp hs (by omega) hh w
  · exact Whole_short4 s p hp hs (by omega) (by omega) w
end Go.Proofs.Ytbllbifkckipdaa
