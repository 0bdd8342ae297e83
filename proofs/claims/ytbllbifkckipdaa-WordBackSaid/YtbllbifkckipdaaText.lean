/- Contracts of the strings.Builder that word.Text writes into, and of word.Text. Condition: fewer than 2^40 symbols. -/
import Derived.Test.YtbllbifkckipdaaDecode
import Derived.Test.YtbllbifkckipdaaShelf
import Derived.Shelf.Utf8.AppendRune
namespace Go.Proofs.Ytbllbifkckipdaa
open Go.RowKit
set_option linter.unusedVariables false

theorem sizeBuilder_ : (Try.prog.info? 71).map (fun i => i.size) = some 2 := by kernel_rfl
set_option maxHeartbeats 1000000 in
set_option maxRecDepth 100000 in
theorem copyCheck_used (b : Nat) (w : World) (h0 : w.cell? ⟨b, 0, none⟩ = some (.pointer (some ⟨b, 0, none⟩))) :
    Calls Try.prog 78 #[.pointer (some ⟨b, 0, none⟩)] w fun e w' => e = .returned (.tuple #[]) ∧ w' = w := by
  obtain ⟨j, hj, _⟩ := Option.map_eq_some_iff.1 sizeBuilder_
  go_enter Try.func78, Try.ntmps78
  go_wp2
  rw [Lib.run_neq_ptr_same w _ Try.underlying69 hj]
  go_wp2
  go_end0
  exact ⟨rfl, rfl⟩
set_option maxHeartbeats 1000000 in
set_option maxRecDepth 100000 in
theorem copyCheck_fresh (b : Nat) (w : World) (h0 : w.cell? ⟨b, 0, none⟩ = some (.pointer none)) (hsh : w.shape? b = some (71, 2)) (hfz : w.frozen? ⟨b, 0, none⟩ = false) :
    Calls Try.prog 78 #[.pointer (some ⟨b, 0, none⟩)] w fun e w' => e = .returned (.tuple #[]) ∧ w' = w.setCell ⟨b, 0, none⟩ (.pointer (some ⟨b, 0, none⟩)) := by
  obtain ⟨j, hj, hjs⟩ := Option.map_eq_some_iff.1 sizeBuilder_
  go_enter Try.func78, Try.ntmps78
  go_wp2
  rw [Lib.run_to_unsafe w ⟨b, 0, none⟩ Try.underlying69 Try.underlying98 hj (by rw [hjs]; decide) hsh (Nat.zero_lt_succ 1)]
  simp only [Result.andThen]
  rw [Oper.upon_value]
  go_wp2
  rw [run_callFunc_extern Try.func87 (by kernel_rfl) (by kernel_rfl) (by kernel_rfl) (e := Extern.AbiNoEscape.same) (by kernel_rfl)]
  rw [Lib.run_noEscape]
  simp only [Result.andThen]
  rw [Oper.upon_value]
  go_wp2
  rw [Lib.run_from_unsafe w ⟨b, 0, none⟩ Try.underlying98 Try.underlying69 hj hsh (by kernel_rfl)]
  simp only [Result.andThen]
  rw [Oper.upon_value]
  go_wp2
  go_end0
  exact ⟨rfl, rfl⟩
theorem copyCheck_any (B b : Nat) (bs : List Value) (w : World) (h : Lib.IsBuilderF 71 5 B b bs w) :
    Calls Try.prog 78 #[.pointer (some ⟨b, 0, none⟩)] w fun e w' => e = .returned (.tuple #[]) ∧ (Lib.BuilderAtF 71 5 B b (.pointer (some ⟨b, 0, none⟩)) bs w' ∧ Below B w w') := by
  rcases h with h | h
  · refine (copyCheck_fresh b w h.cell0 h.shape h.frozen0).mono ?_
    rintro e w' ⟨rfl, rfl⟩
    exact ⟨rfl, h.used _, (Below.refl B w).setCell (p := ⟨b, 0, none⟩) h.1 _⟩
  · refine (copyCheck_used b w h.cell0).mono ?_
    rintro e w' ⟨rfl, rfl⟩
    exact ⟨rfl, h, Below.refl B _⟩

set_option maxHeartbeats 4000000 in
set_option maxRecDepth 100000 in
theorem WriteRune_any (B b : Nat) (bs : List Value) (r : Int) (hr0 : -2147483648 ≤ r) (hr1 : r ≤ 2147483647) (w : World) (h : Lib.IsBuilderF 71 5 B b bs w) (hlen : bs.length + 4 ≤ 140737488355328) (hBw : B ≤ w.heap.size) :
    Calls Try.prog 64 #[.pointer (some ⟨b, 0, none⟩), .int .i32 r] w fun e w' => e = .returned (.tuple #[.int .i64 (Lib.runeCells r).length, .nilIface]) ∧ (Lib.IsBuilderF 71 5 B b (bs ++ Lib.runeCells r) w' ∧ Below B w w') := by
  have hk4 := Lib.runeCells_le r
  go_enter Try.func64, Try.ntmps64
  go_wp2_with (go_at_call 78; refine (copyCheck_any B b bs _ h).mono ?_)
  rintro e w1 ⟨rfl, h1, hb1⟩
  obtain ⟨hB, v, hbk, hown, hne⟩ := h1
  obtain ⟨ao, cap, rfl⟩ : ∃ ao cap, v = .slice ao bs.length cap := by
    rcases hown.2 with ⟨hv, h0⟩ | ⟨g, cap, cur, fz, hv, _⟩
    · exact ⟨none, 0, by rw [hv, h0]⟩
    · exact ⟨_, _, hv⟩
  have c0 : w1.cell? ⟨b, 0, none⟩ = some (.pointer (some ⟨b, 0, none⟩)) := by rw [Lib.cell_of_heap hbk]; rfl
  have c1 : w1.cell? ⟨b, 1, none⟩ = some (.slice ao bs.length cap) := by rw [Lib.cell_of_heap hbk]; rfl
  have HAR := Go.Proofs.Any.utf8_AppendRune_row Go.Proofs.Try.lays242 (by kernel_rfl) B _ bs.length bs r hr0 hr1 _ hown hlen (by have := hb1.size; omega)
  change Calls Try.prog 79 _ _ _ at HAR
  have HARH := Lib.hid HAR
  clear HAR
  go_wp2_with (go_at_call 79; refine HARH.out.mono ?_)
  rintro e w2 ⟨v', rfl, hown', o, hgrow⟩
  have hlt : b < w1.heap.size := by
    rcases Nat.lt_or_ge b w1.heap.size with h' | h'
    · exact h'
    · simp [Array.getElem?_eq_none h'] at hbk
  have hb2 : w2.heap[b]? = some (.cells #[.pointer (some ⟨b, 0, none⟩), .slice ao bs.length cap] 71 (0, 0)) := by
    rw [hgrow.block b (by simp; omega) (fun e => hne e.symm), Lib.alloc_old w1 _ b hlt]
    exact hbk
  have d0 : w2.cell? ⟨b, 0, none⟩ = some (.pointer (some ⟨b, 0, none⟩)) := by rw [Lib.cell_of_heap hb2]; rfl
  have d1 : w2.cell? ⟨b, 1, none⟩ = some (.slice ao bs.length cap) := by rw [Lib.cell_of_heap hb2]; rfl
  have f1 : w2.frozen? ⟨b, 1, none⟩ = false := Lib.frozen_of_heap hb2 1
  obtain ⟨g, cap', rfl⟩ : ∃ g cap', v' = .slice (some ⟨g, 0, none⟩) (bs.length + (Lib.runeCells r).length) cap' := by
    rcases hown'.2 with ⟨_, h0⟩ | ⟨g, cap', cur, fz, hv, _⟩
    · omega
    · exact ⟨g, cap', hv⟩
  go_wp2
  go_ret2
  refine ⟨?_, .inr ?_, ?_⟩
  · have e : ((bs.length : Int) + ((Lib.runeCells r).length : Int) - (bs.length : Int)) = ((Lib.runeCells r).length : Int) := by omega
    simp [e]
  · exact Lib.BuilderAtF.put (T := 71) (e := 5) hB hb2 (bs' := bs ++ Lib.runeCells r) (by rw [List.length_append]; exact hown') (by decide)
  · exact ((hb1.alloc (by have := hb1.size; omega) _).grown hgrow (by have := hb1.size; simp; omega) (fun k hk => (hown.lt k hk).1)).setCell (p := ⟨b, 1, none⟩) hB _

theorem runeCells_rbytes (x : Int) (h : inB 2 x = true) : Lib.runeCells x = (rbytes x).map (Value.int .u8) := by
  rw [inB2_iff] at h
  unfold Lib.runeCells
  congr 1
  by_cases g1 : x < 128
  · rw [Lib.encodeRuneZ_one (by omega) (by omega), rbytes1 (by omega) g1]
  by_cases g2 : x < 2048
  · rw [Lib.encodeRuneZ_two (by omega) (by omega), rbytes2 (by omega) g2]
  by_cases g3 : x < 65536
  · rw [Lib.encodeRuneZ_three (by omega), rbytes3 (by omega) g3 (by omega)]
  · rw [Lib.encodeRuneZ_four (by omega) (by omega), rbytes4 (by omega) (by omega)]
theorem byteCells_nums (zs : List Int) (h : ∀ z ∈ zs, 0 ≤ z ∧ z ≤ 255) : Lib.byteCells (zs.map fun n => UInt8.ofNat n.toNat) = zs.map (Value.int .u8) := by
  unfold Lib.byteCells
  rw [List.map_map]
  apply List.map_congr_left
  intro z hz
  have := h z hz
  simp only [Function.comp, UInt8.toNat_ofNat']
  congr 1
  omega
/-- the bytes of the scalars, one behind the other -/
def encW (xs : List Int) : List Int := xs.flatMap rbytes
theorem encW_small (xs : List Int) : ∀ z ∈ encW xs, 0 ≤ z ∧ z ≤ 255 := by
  intro z hz
  obtain ⟨x, _, h⟩ := List.mem_flatMap.1 hz
  exact rbytes_small x z h
theorem rbytes_len (x : Int) : (rbytes x).length ≤ 4 := by
  unfold rbytes
  repeat' split
  all_goals simp
theorem encW_len (xs : List Int) : (encW xs).length ≤ 4 * xs.length := by
  induction xs with
  | nil => simp [encW]
  | cons x xs ih => have := rbytes_len x; simp [encW] at *; omega
theorem encW_snoc (xs : List Int) (x : Int) : encW (xs ++ [x]) = encW xs ++ rbytes x := by simp [encW]
def NewText (w : World) (xs : List Int) (e : Ending) (w' : World) : Prop :=
  (xs.all (inB 2) = true ∧ e = .returned (.tuple #[.string (strOfNums (encW xs)), .bool true]) ∧ Below w.heap.size w w') ∨
  (xs.all (inB 2) = false ∧ e = .returned (.tuple #[.string ByteArray.empty, .bool false]) ∧ Below w.heap.size w w')

set_option maxHeartbeats 2000000 in
theorem Text_any (A : Option Addr) (n c : Nat) (xs : List Int) (w : World) (h : Ints .i32 w A n xs) (hn : n < 1099511627776) :
    Calls Try.prog 35 #[.slice A n c] w (NewText w xs) := by
  have HF := Fits_any 2 A n c xs w h (by omega)
  have H := Lib.hid h
  clear h
  rcases hall : xs.all (inB 2) with _ | _
  · rw [hall] at HF
    have HFF := Lib.hid HF
    have HA := Lib.hid hall
    clear HF hall
    go_enter Try.func35, Try.ntmps35
    go_wp2_with (go_at_call 31; refine HFF.out.mono ?_; rintro e w' ⟨rfl, rfl⟩)
    go_ret2
    exact .inr ⟨HA.out, rfl, Below.refl _ _⟩
  · rw [hall] at HF
    have HFF := Lib.hid HF
    have HA := Lib.hid hall
    clear HF hall
    have hI0 : Hid (Lib.IsBuilderF 71 5 w.heap.size w.heap.size [] (w.alloc (.cells #[.pointer none, .slice none 0 0] 71))) := Lib.hid (Lib.IsBuilderF.of (Lib.fresh_isBuilder 71 5 w))
    have hb0 : Below w.heap.size w (w.alloc (.cells #[.pointer none, .slice none 0 0] 71)) := (Below.refl _ w).alloc (Nat.le_refl _) _
    go_enter Try.func35, Try.ntmps35
    go_wp2_with (go_at_call 31; refine HFF.out.mono ?_; rintro e w' ⟨rfl, rfl⟩)
    go_loopw [12] (fun i wr => ∃ k : Nat, k ≤ n ∧ i = .int .i64 k ∧ Lib.IsBuilderF 71 5 w.heap.size w.heap.size ((encW (xs.take k)).map (Value.int .u8)) wr ∧ Below w.heap.size w wr) (fun i _ => n - (intOf i).toNat)
    case atStart => exact ⟨0, Nat.zero_le _, rfl, hI0.out, hb0⟩
    case round =>
      obtain ⟨k, hk, rfl, hI, hb⟩ := hrel
      clear hI0 hb0
      by_cases hlt : k < n
      · obtain ⟨b, off, x, rfl, hx, hc⟩ := H.out.at_ hlt
        have hc1 := (hb.cell (lt_of_cell hc)).trans hc
        have hin : inB 2 x = true := List.all_eq_true.1 HA.out x (List.mem_of_getElem? hx)
        have hxb := (inB2_iff x).1 hin
        have hlen := encW_len (xs.take k)
        rw [List.length_take] at hlen
        have HW := Lib.hid (WriteRune_any w.heap.size w.heap.size _ x (by omega) (by omega) wr hI (by rw [List.length_map]; omega) hb.size)
        have HE : Hid ((encW (xs.take k)).map (Value.int .u8) ++ Lib.runeCells x = (encW (xs.take (k + 1))).map (Value.int .u8)) := by
          unfold Hid
          rw [take_snoc? hx, encW_snoc, List.map_append, runeCells_rbytes x hin]
        have HB := Lib.hid hb
        clear hI hx hc hb hlen
        go_wp2_with fail
        refine HW.out.mono ?_
        rintro e w2 ⟨rfl, hI2, hb2⟩
        have HI2 := Lib.hid hI2
        have HB2 := Lib.hid (HB.out.trans hb2)
        clear hI2 hb2
        go_wp2_with fail
        go_roundw
        case rel => exact ⟨k + 1, by omega, by go_num, HE.out ▸ HI2.out, HB2.out⟩
        case measure => simp [intOf]; omega
      · have hkn : k = n := by omega
        subst hkn
        rw [List.take_of_length_le (by have := H.out.len; omega), ← byteCells_nums _ (encW_small xs)] at hI
        have HS := Go.Proofs.Any.Builder_String_any_f Go.Proofs.Try.lays169 Go.Proofs.Try.Builder_Extra_169 w.heap.size w.heap.size _ wr hI hb.size
        change Calls Try.prog 65 _ _ _ at HS
        have HSS := Lib.hid HS
        have HB := Lib.hid hb
        clear HS hI hb
        go_wp2_with fail
        refine HSS.out.mono ?_
        rintro e w2 ⟨rfl, _, hb2⟩
        have HB2 := Lib.hid (HB.out.trans hb2)
        clear hb2
        go_wp2_with fail
        go_ret2
        exact .inl ⟨HA.out, rfl, HB2.out⟩
end Go.Proofs.Ytbllbifkckipdaa
