/- Contracts of word.Raw and word.Bytes. Condition: the slices that come in have fewer than 2^40 elements. -/
import Derived.Test.YtbllbifkckipdaaSame
import Derived.OpenShut
namespace Go.Proofs.Ytbllbifkckipdaa
open Go.RowKit
set_option linter.unusedVariables false

theorem take_set_snoc {α : Type} (L : List α) (k : Nat) (u : α) (h : k < L.length) : (L.set k u).take (k + 1) = L.take k ++ [u] := by
  rw [take_snoc? (x := u) (by rw [List.getElem?_set_self h]), List.take_set_of_le (Nat.le_refl k)]
theorem info5 : (Try.prog.info? 5).map (fun i => (i.zero, i.size, i.bytes)) = some (some (.int .u8 0), 1, 1) := by kernel_rfl

set_option maxHeartbeats 1000000 in
theorem Raw_any (A : Option Addr) (n c : Nat) (xs : List Int) (w : World) (h : Ints .u8 w A n xs) (hx : ∀ x ∈ xs, 0 ≤ x ∧ x ≤ 255) (hn : n < 1099511627776) :
    Calls Try.prog 33 #[.slice A n c] w (NewInts .i32 w xs) := by
  obtain ⟨i0, hi, hz0, hz1, hz2⟩ := info_parts info21
  have H := Lib.hid h
  have HX := Lib.hid hx
  clear h hx
  go_enter Try.func33, Try.ntmps33
  go_wp2_with (at_make; go_must (refine wpList_make_full _ rfl _ _ 23 rfl w.heap.size 21 i0 (.int .i32 0) 1 Try.underlying23 hi hz0 hz1 _ _ _ _ n rfl rfl rfl rfl ?c1 ?c2 (Nat.le_refl _) ?c3))
  case c1 => rw [hz2]; omega
  case c2 => unfold maxLen; omega
  case c3 =>
  intro w1 hown hg
  have hb : Below w.heap.size w w1 := (Below.refl _ w).grown hg (Nat.le_refl _) (by intro k hk; cases hk)
  have H1 := Lib.hid (H.out.below hb)
  clear hg
  go_wp2_with fail
  go_loopw [11] (fun i wr => ∃ (k : Nat) (L : List Value), k ≤ n ∧ i = .int .i64 k ∧ wr.ownsRow w.heap.size 21 1 (.slice (some ⟨w.heap.size, 0, none⟩) n n) n L ∧ Below w.heap.size w wr ∧ Hid (L.take k = (xs.take k).map (Value.int .i32))) (fun i _ => n - (intOf i).toNat)
  case atStart => exact ⟨0, _, Nat.zero_le _, rfl, hown, hb, rfl⟩
  case round =>
    obtain ⟨k, L, hk, rfl, hown, hb, hal⟩ := hrel
    by_cases hlt : k < n
    · obtain ⟨b, off, x, rfl, hx, hc⟩ := H.out.at_ hlt
      have hc1 : wr.cell? ⟨b, off + k, none⟩ = some (.int .u8 x) := (hb.cell (lt_of_cell hc)).trans hc
      have hll : k < L.length := by have := hown.1; omega
      have hd : wr.cell? ⟨w.heap.size, k, none⟩ = some (L[k]) := by rw [hown.cellAt k (by omega), List.getElem?_eq_getElem hll]
      have hf := hown.frozenAt k
      obtain ⟨hown2, hg2⟩ := hown.stored k (.int .i32 x)
      have hb2 : Below w.heap.size w (wr.setCell ⟨w.heap.size, k, none⟩ (.int .i32 x)) := hb.setCell (Nat.le_refl _) _
      obtain ⟨hx0, hx1⟩ := HX.out x (List.mem_of_getElem? hx)
      have HO := Lib.hid hown2
      have HL := Lib.hid hll
      have HXX := Lib.hid hx
      generalize L[k] = u0 at hd
      clear hown hown2 hg2 hc hb hx hll
      go_wp2_with fail
      go_roundw
      case rel => exact ⟨k + 1, _, by omega, by go_num, HO.out, hb2, by unfold Hid; rw [take_set_snoc _ _ _ HL.out, hal.out, take_snoc? HXX.out, List.map_append]; rfl⟩
      case measure => simp [intOf]; omega
    · have hkn : k = n := by omega
      have HK := Lib.hid hkn
      clear hkn
      go_wp2_with fail
      go_ret
      have e := hal.out
      rw [HK.out, List.take_of_length_le (by have := hown.1; omega), List.take_of_length_le (by have := H.out.len; omega)] at e
      rw [e] at hown
      exact NewInts.of_own hown hb

/-- what word.Bytes returns: the bytes, or that they are none -/
def NewBytes (w : World) (xs : List Int) (e : Ending) (w' : World) : Prop :=
  (xs.all (inB 1) = true ∧ ∃ A n c, e = .returned (.tuple #[.slice A n c, .bool true]) ∧ Ints .u8 w' A n xs ∧ n ≤ c ∧ c ≤ 9223372036854775807 ∧ Below w.heap.size w w') ∨
  (xs.all (inB 1) = false ∧ e = .returned (.tuple #[.slice none 0 0, .bool false]) ∧ Below w.heap.size w w')
theorem inB1 {x : Int} (h : inB 1 x = true) : 0 ≤ x ∧ x ≤ 255 := by simpa [inB] using h
set_option maxHeartbeats 1000000 in
theorem Bytes_any (A : Option Addr) (n c : Nat) (xs : List Int) (w : World) (h : Ints .i32 w A n xs) (hn : n < 1099511627776) :
    Calls Try.prog 34 #[.slice A n c] w (NewBytes w xs) := by
  obtain ⟨i0, hi, hz0, hz1, hz2⟩ := info_parts info5
  have HF := Fits_any 1 A n c xs w h (by omega)
  have H := Lib.hid h
  clear h
  rcases hall : xs.all (inB 1) with _ | _
  · rw [hall] at HF
    have HFF := Lib.hid HF
    clear HF
    have HA := Lib.hid hall
    clear hall
    go_enter Try.func34, Try.ntmps34
    go_wp2_with (go_at_call 31; refine HFF.out.mono ?_; rintro e w' ⟨rfl, rfl⟩)
    go_ret2
    exact .inr ⟨HA.out, rfl, Below.refl _ _⟩
  · rw [hall] at HF
    have HFF := Lib.hid HF
    clear HF
    have hx : ∀ x ∈ xs, 0 ≤ x ∧ x ≤ 255 := fun x hx => inB1 (List.all_eq_true.1 hall x hx)
    have HX := Lib.hid hx
    have HA := Lib.hid hall
    clear hall hx
    go_enter Try.func34, Try.ntmps34
    go_wp2_with (first | (go_at_call 31; refine HFF.out.mono ?_; rintro e w' ⟨rfl, rfl⟩) | (at_make; go_must (refine wpList_make_full _ rfl _ _ 25 rfl w.heap.size 5 i0 (.int .u8 0) 1 Try.underlying25 hi hz0 hz1 _ _ _ _ n rfl rfl rfl rfl ?c1 ?c2 (Nat.le_refl _) ?c3)))
    case c1 => rw [hz2]; omega
    case c2 => unfold maxLen; omega
    case c3 =>
    intro w1 hown hg
    have hb : Below w.heap.size w w1 := (Below.refl _ w).grown hg (Nat.le_refl _) (by intro k hk; cases hk)
    clear hg
    go_wp2_with fail
    go_loopw [15] (fun i wr => ∃ (k : Nat) (L : List Value), k ≤ n ∧ i = .int .i64 k ∧ wr.ownsRow w.heap.size 5 1 (.slice (some ⟨w.heap.size, 0, none⟩) n n) n L ∧ Below w.heap.size w wr ∧ Hid (L.take k = (xs.take k).map (Value.int .u8))) (fun i _ => n - (intOf i).toNat)
    case atStart => exact ⟨0, _, Nat.zero_le _, rfl, hown, hb, rfl⟩
    case round =>
      obtain ⟨k, L, hk, rfl, hown, hb, hal⟩ := hrel
      by_cases hlt : k < n
      · obtain ⟨b, off, x, rfl, hx, hc⟩ := H.out.at_ hlt
        have hc1 : wr.cell? ⟨b, off + k, none⟩ = some (.int .i32 x) := (hb.cell (lt_of_cell hc)).trans hc
        have hll : k < L.length := by have := hown.1; omega
        have hd : wr.cell? ⟨w.heap.size, k, none⟩ = some (L[k]) := by rw [hown.cellAt k (by omega), List.getElem?_eq_getElem hll]
        have hf := hown.frozenAt k
        obtain ⟨hown2, hg2⟩ := hown.stored k (.int .u8 x)
        have hb2 : Below w.heap.size w (wr.setCell ⟨w.heap.size, k, none⟩ (.int .u8 x)) := hb.setCell (Nat.le_refl _) _
        obtain ⟨hx0, hx1⟩ := HX.out x (List.mem_of_getElem? hx)
        have HO := Lib.hid hown2
        have HL := Lib.hid hll
        have HXX := Lib.hid hx
        generalize L[k] = u0 at hd
        clear hown hown2 hg2 hc hb hx hll
        go_wp2_with fail
        go_roundw
        case rel => exact ⟨k + 1, _, by omega, by go_num, HO.out, hb2, by unfold Hid; rw [take_set_snoc _ _ _ HL.out, hal.out, take_snoc? HXX.out, List.map_append]; rfl⟩
        case measure => simp [intOf]; omega
      · have hkn : k = n := by omega
        have HK := Lib.hid hkn
        clear hkn
        go_wp2_with fail
        go_ret2
        have e := hal.out
        rw [HK.out, List.take_of_length_le (by have := hown.1; omega), List.take_of_length_le (by have := H.out.len; omega)] at e
        exact .inl ⟨HA.out, _, n, n, rfl, Sl.of_own (e ▸ hown), Nat.le_refl _, by omega, hb⟩
end Go.Proofs.Ytbllbifkckipdaa
