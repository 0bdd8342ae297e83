/- The walk of umlautlaw02.WordOf: it returns true. Condition: none. -/
import Derived.Test.YtbllbifkckipdaaAwake02
import Derived.Test.YtbllbifkckipdaaDecode
namespace Go.Proofs.Ytbllbifkckipdaa
open Go.RowKit
set_option linter.unusedVariables false

theorem run_slice_str2 (t : TypeId) (ht : Try.prog.underlying t = some .string) (s : ByteArray) (p n : Nat) (h : p + n ≤ s.size) (w : World) : (Instr.slice t (.string s) (some (.int .i64 p)) (some (.int .i64 ((p : Int) + (n : Int)))) none).run Try.prog w = .ok (.string (s.extract p (p + n))) w :=
  run_slice_str t ht s p n h p (p + n) rfl rfl w
theorem beq_flip (a b : List UInt8) (r : Bool) (h : (a == b) = r) : (b == a) = r := by
  rw [← h, Bool.eq_iff_iff, beq_iff_eq, beq_iff_eq]; exact eq_comm

set_option maxRecDepth 100000 in
set_option maxHeartbeats 4000000 in
theorem WordOf_walk (a0 : ByteArray) (w0 : a0.size ≤ maxLen) (w : World) :
    Calls Try.prog 3 #[.string a0] w fun e w' => e = .returned (.bool true) ∧ Below w.heap.size w w' := by
  unfold maxLen at w0
  by_cases hlong : 2000 < a0.size
  · go_enter Try.func3, Try.ntmps3
    go_wp2_with (go_at_call 18; refine (awake02_any _).out.mono ?_; rintro e w' ⟨rfl, hb⟩)
    go_ret
    exact ⟨rfl, hb⟩
  go_enter Try.func3, Try.ntmps3
  go_wp2_with fail
  refine (Of_any a0 _ (by omega)).mono ?_
  rintro e w1 ⟨A, n, c, rfl, hA, hn, hc, hb1⟩
  have hnl : n ≤ a0.size := by
    have h1 := hA.len
    have h2 := runesAt_length a0 (a0.size - 0) 0 (Nat.le_refl _)
    simp [runes] at h1
    omega
  have HA := Lib.hid hA; clear hA
  go_wp2_with fail
  go_loopw [4, 5] (fun a i wr => ∃ k pos : Nat, k ≤ n ∧ pos ≤ a0.size ∧ i = .int .i64 k ∧ a = .int .i64 pos ∧ Ints .i32 wr A n (runes a0) ∧ Below w.heap.size w wr ∧ Hid ((runes a0).drop k = (runesAt a0 pos).map fun d => (d.1 : Int))) (fun _ i _ => n - (intOf i).toNat)
  case atStart => exact ⟨0, 0, Nat.zero_le _, Nat.zero_le _, rfl, rfl, HA.out, hb1, rfl⟩
  case round =>
  obtain ⟨k, pos, hk, hpos, rfl, rfl, hA, hb, hdr⟩ := hrel
  clear hb1
  by_cases hlt : k < n
  · obtain ⟨b, off, x, rfl, hx, hcx⟩ := hA.at_ hlt
    have hp : pos < a0.size := by
      rcases Nat.lt_or_ge pos a0.size with h | h
      · exact h
      · have := hdr.out
        rw [runesAt_end a0 pos (by omega), drop_cons? hx] at this
        simp at this
    obtain ⟨e1, e2⟩ : x = ((Utf8.decode a0 pos).1 : Int) ∧ Hid ((runes a0).drop (k + 1) = (runesAt a0 (pos + (Utf8.decode a0 pos).2)).map fun d => (d.1 : Int)) := by
      have := hdr.out
      rw [runesAt_step a0 pos hp, drop_cons? hx, List.map_cons, List.cons.injEq] at this
      exact this
    have HA2 := Lib.hid hA
    have hcase := dec_case a0 pos hp
    clear hdr hA hx
    generalize hwd : (Utf8.decode a0 pos).2 = wd at *
    rcases hcase with ⟨g1, g2, g3, g4⟩ | ⟨g1, g2, g3⟩
    · rw [← e1] at g2
      clear e1 hwd
      go_wp2_with fail
      refine (rBytes_any _ _).mono ?_
      rintro e w2 ⟨A2, n2, c2, rfl, hA2, hn2, hc2, hb2⟩
      have hcv := run_conv_str (P := Try.prog) w2 25 5 Try.underlying25 Try.underlying5 A2 n2 c2 _ hA2 9 Try.underlying9
      have hsz : (strOfNums (rbytes x)).size = wd := by rw [strOfNums_size, g2]; simp [bts]
      have heq := beq_flip _ _ _ ((strOf_eq (rbytes x) (rbytes_small x) a0 pos wd g1).trans (decide_eq_true g2))
      have HA3 := Lib.hid (HA2.out.below hb2)
      have hb3 := below_to hb hb2
      generalize strOfNums (rbytes x) = S at *
      have hsl := run_slice_str2 9 Try.underlying9 a0 pos wd g1
      clear hb hb2 hA2 g2 hcx
      go_wp2_with fail
      go_roundw
      case rel => exact ⟨k + 1, pos + wd, by omega, by omega, by go_num, by go_num, HA3.out, hb3, e2⟩
      case measure => simp [intOf]; omega
    · have ewd : wd = 1 := by rw [g1] at hwd; exact hwd.symm
      have ex : x = 65533 := by rw [e1, g1]; rfl
      clear hwd
      subst ewd
      subst ex
      clear e1 g1
      have er : rbytes 65533 = [239, 191, 189] := by decide
      go_wp2_with fail
      refine (rBytes_any _ _).mono ?_
      rintro e w2 ⟨A2, n2, c2, rfl, hA2, hn2, hc2, hb2⟩
      rw [er] at hA2
      have hcv := run_conv_str (P := Try.prog) w2 25 5 Try.underlying25 Try.underlying5 A2 n2 c2 _ hA2 9 Try.underlying9
      have hcx2 : w2.cell? ⟨b, off + k, none⟩ = some (.int .i32 65533) := (hb2.cell (lt_of_cell hcx)).trans hcx
      have hsz : (strOfNums [239, 191, 189]).size = 3 := rfl
      have HA3 := Lib.hid (HA2.out.below hb2)
      have hb3 := Lib.hid (below_to hb hb2)
      have HW := Lib.hid (Whole_any a0 pos hp (by omega) w2)
      rw [g3] at HW
      clear g3 er
      by_cases h3 : pos + 3 ≤ a0.size
      · have heq := beq_flip _ _ _ ((strOf_eq [239, 191, 189] (by decide) a0 pos 3 h3).trans (decide_eq_false fun h => g2 ⟨h3, h⟩))
        have hsl := run_slice_str2 9 Try.underlying9 a0 pos 3 h3
        generalize strOfNums [239, 191, 189] = S at *
        clear hb hb2 hA2 g2 hcx
        go_wp2_with (go_at_call 21; refine HW.out.out.mono ?_; rintro e w3 ⟨rfl, hb4⟩; have HA4 := Lib.hid (HA3.out.below hb4); have hb5 := Lib.hid (below_to hb3.out hb4))
        go_roundw
        case rel => exact ⟨k + 1, pos + 1, by omega, by omega, by go_num, by go_num, HA4.out, hb5.out, e2⟩
        case measure => simp [intOf]; omega
      · generalize strOfNums [239, 191, 189] = S at *
        clear hb hb2 hA2 g2 hcx
        go_wp2_with (go_at_call 21; refine HW.out.out.mono ?_; rintro e w3 ⟨rfl, hb4⟩; have HA4 := Lib.hid (HA3.out.below hb4); have hb5 := Lib.hid (below_to hb3.out hb4))
        go_roundw
        case rel => exact ⟨k + 1, pos + 1, by omega, by omega, by go_num, by go_num, HA4.out, hb5.out, e2⟩
        case measure => simp [intOf]; omega
  · have hps : pos = a0.size := by
      rcases Nat.lt_or_ge pos a0.size with h | h
      · have := hdr.out
        rw [runesAt_step a0 pos h, List.drop_of_length_le (by have := hA.len; omega)] at this
        simp at this
      · omega
    subst hps
    have HB := Lib.hid hb
    clear hA hb hdr
    go_wp2_with (go_at_call 18; refine (awake02_any _).out.mono ?_; rintro e w' ⟨rfl, hb2⟩)
    go_ret
    exact ⟨rfl, below_to HB.out hb2⟩
end Go.Proofs.Ytbllbifkckipdaa
