/- Contracts of span.First, span.Last, span.At and of umlautref01.Nth, At, Count. Condition: lists of fewer than 2^20 spans (the document's) or 2^37 (the program's), whose numbers are ints. -/
import Derived.Test.YtdaagdohhnhbdaaRNorm
import Derived.Test.YtdaagdohhnhbdaaState
namespace Go.Proofs.Ytdaagdohhnhbdaa
open Go.RowKit
set_option linter.unusedVariables false

def optD (o : Option Int) : Int := match o with | some x => x | none => 0
def optB (o : Option Int) : Bool := match o with | some _ => true | none => false
theorem ret_pair {a b : Int} {c d : Bool} (h : a = b) (h' : c = d) : Ending.returned (.tuple #[.int .i64 a, .bool c]) = .returned (.tuple #[.int .i64 b, .bool d]) := by rw [h, h']

set_option maxRecDepth 100000 in
set_option maxHeartbeats 4000000 in
theorem First_any (A : Option Addr) (n c : Nat) (l r : List Sp) (w : World) (h : Spans w A n l) (hw : SpW l) (hn : n < 137438953472) (hr : Rep r (Mem l)) :
    Gives Try.prog 81 #[.slice A n c] w (.tuple #[.int .i64 (optD (nthS r 0)), .bool (optB (nthS r 0))]) := by
  have HN := Lib.hid (Norm_any A n c l w h hw (by omega))
  have HR := Lib.hid hr
  clear h hr
  unfold Gives
  go_enter Try.func81, Try.ntmps81
  go_wp2_with fail
  refine HN.out.mono ?_
  rintro e w1 ⟨r', ho, hr', hrl⟩
  obtain rfl : r' = r := Rep.unique hr' HR.out (fun _ => Iff.rfl)
  obtain ⟨g1, c1, rfl, hg1, hc1, hm1, hrow1, hb1⟩ := ho.shape
  have HRow1 := Lib.hid hrow1
  have HB1 := Lib.hid hb1
  clear ho hrow1 hb1 hr' HN
  rcases r' with _ | ⟨p, l'⟩
  · go_wp2_with fail
    go_ret2
    exact ⟨rfl, HB1.out⟩
  · have hf := Lib.hid (nthS_first HR.out.1)
    have hd : w1.cell? ⟨g1, 0, none⟩ = some (.int .i64 p.1) := by rw [HRow1.out.cellAt 0 (by simp)]; rfl
    have hlen : 0 < (p :: l').length := by simp
    have hz : (((p :: l').length : Int) == 0) = false := by simp; omega
    obtain ⟨N, hN⟩ : ∃ N, (p :: l').length = N := ⟨_, rfl⟩
    have HN := Lib.hid hN
    rw [hN] at hz hlen hc1 hrl ⊢
    clear hN
    go_wp2_with fail
    go_ret2
    exact ⟨ret_pair (by rw [hf.out]; rfl) (by rw [hf.out]; rfl), HB1.out⟩

set_option maxRecDepth 100000 in
set_option maxHeartbeats 4000000 in
theorem Last_any (A : Option Addr) (n c : Nat) (l r : List Sp) (w : World) (h : Spans w A n l) (hw : SpW l) (hn : n < 137438953472) (hr : Rep r (Mem l)) :
    Gives Try.prog 91 #[.slice A n c] w (.tuple #[.int .i64 (optD (nthS r (cnt r - 1))), .bool (optB (nthS r (cnt r - 1)))]) := by
  have HN := Lib.hid (Norm_any A n c l w h hw (by omega))
  have HR := Lib.hid hr
  clear h hr
  unfold Gives
  go_enter Try.func91, Try.ntmps91
  go_wp2_with fail
  refine HN.out.mono ?_
  rintro e w1 ⟨r', ho, hr', hrl⟩
  obtain rfl : r' = r := Rep.unique hr' HR.out (fun _ => Iff.rfl)
  obtain ⟨g1, c1, rfl, hg1, hc1, hm1, hrow1, hb1⟩ := ho.shape
  have HRow1 := Lib.hid hrow1
  have HB1 := Lib.hid hb1
  clear ho hrow1 hb1 hr' HN
  rcases last_cases r' with rfl | ⟨m, q, rfl⟩
  · go_wp2_with fail
    go_ret2
    exact ⟨rfl, HB1.out⟩
  · have hf := Lib.hid (nthS_last HR.out.1)
    have hd : w1.cell? ⟨g1, m.length * 2 + 1, none⟩ = some (.int .i64 q.2) := by rw [HRow1.out.cellAt _ (by simp; omega)]; exact (spanCells_at _ _ _ (by simp)).2
    have hle : (m ++ [q]).length = m.length + 1 := by simp
    rw [hle] at hrl hc1 ⊢
    obtain ⟨N, hN⟩ : ∃ N, m.length = N := ⟨_, rfl⟩
    rw [hN] at hrl hc1 hd ⊢
    clear hle hN
    go_wp2_with fail
    go_ret2
    exact ⟨ret_pair (by rw [hf.out]; rfl) (by rw [hf.out]; rfl), HB1.out⟩

set_option maxRecDepth 100000 in
set_option maxHeartbeats 8000000 in
theorem Nth_any (A : Option Addr) (n c : Nat) (r : List Sp) (i : Int) (w : World) (h : Spans w A n r) (hn : n ≤ 9223372036854775806) (hr : Plain r) (hi : i ≤ 9223372036854775807) :
    Drawn Try.prog 82 #[.slice A n c, .int .i64 i] w (.tuple #[.int .i64 (optD (nthI r i)), .bool (optB (nthI r i))]) := by
  have HA := Lib.hid h
  have HR := Lib.hid hr
  have HL := Lib.hid h.len
  clear h hr
  unfold Drawn
  go_enter Try.func82, Try.ntmps82
  go_wp2_with fail
  go_loopw [1, 6] (fun s j wr => ∃ (k : Nat) (x : Int) (q : Nat), k ≤ n ∧ j = .int .i64 k ∧ s = .int .i64 x ∧ x ≤ i ∧ Hid (nthI (r.drop k) x = nthI r i) ∧ wr = w.drewN q) (fun _ j _ => n - (intOf j).toNat)
  case atStart => exact ⟨0, i, 0, Nat.zero_le _, rfl, rfl, Int.le_refl _, rfl, rfl⟩
  case round =>
  obtain ⟨k, x, q, hk, rfl, rfl, hxi, HX, rfl⟩ := hrel
  by_cases hlt : k < n
  · by_cases hx0 : x < 0
    · have hv : Hid (nthI r i = none) := by
        unfold Hid
        rw [← HX.out]
        exact if_pos hx0
      have hx1 : decide (0 ≤ x) = false := by simp; omega
      go_wp2_with fail
      go_ret2
      exact ⟨ret_pair (by rw [hv.out]; rfl) (by rw [hv.out]; rfl), q, rfl⟩
    · obtain ⟨b, off, p, rfl, hp, hc1, hc2⟩ := HA.out.at_ hlt
      have hx2 : 0 ≤ x := by omega
      have hxb := PlainF.mem HR.out (List.mem_of_getElem? hp)
      have E := Lib.hid (drop_cons? hp)
      obtain ⟨x1, x2⟩ := p
      simp only at hxb hc1 hc2
      clear hp
      by_cases hge : x2 - x1 + 1 ≤ x
      · go_wp2_with fail
        go_quiet (fail)
        go_wp2_with fail
        go_roundw
        case rel =>
          refine ⟨k + 1, x - (x2 - x1 + 1), _, by omega, by go_num, by go_num, by omega, ?_, rfl⟩
          unfold Hid
          rw [← HX.out, E.out]
          unfold nthI
          rw [if_neg (by omega), if_neg (by omega)]
          simp only [nthS]
          rw [if_neg (by omega)]
        case measure => simp [intOf]; omega
      · have hv : Hid (nthI r i = some (x1 + x)) := by
          unfold Hid
          rw [← HX.out, E.out]
          unfold nthI
          rw [if_neg (by omega)]
          simp only [nthS]
          rw [if_pos (by omega)]
        go_wp2_with fail
        go_quiet (fail)
        go_wp2_with fail
        go_ret2
        exact ⟨ret_pair (by rw [hv.out]; rfl) (by rw [hv.out]; rfl), _, rfl⟩
  · have hd : decide (k < n) = false := by simpa using hlt
    obtain rfl : k = n := by omega
    have hv : Hid (nthI r i = none) := by
      unfold Hid
      rw [← HX.out, List.drop_of_length_le (by rw [HL.out]; exact Nat.le_refl _)]
      unfold nthI
      split <;> rfl
    go_wp2_with fail
    go_ret2
    exact ⟨ret_pair (by rw [hv.out]; rfl) (by rw [hv.out]; rfl), q, rfl⟩

set_option maxRecDepth 100000 in
set_option maxHeartbeats 8000000 in
theorem rAt_any (A : Option Addr) (n c : Nat) (l r : List Sp) (i : Int) (w : World) (h : Spans w A n l) (hw : SpW l) (hn : n < 1048576) (hr : Rep r (Mem l)) (hi : i ≤ 9223372036854775807) :
    Gives Try.prog 48 #[.slice A n c, .int .i64 i] w (.tuple #[.int .i64 (optD (nthI r i)), .bool (optB (nthI r i))]) := by
  have HN := Lib.hid (rNorm_any A n c l w h hw hn)
  have HR := Lib.hid hr
  clear h hr
  unfold Gives
  go_enter Try.func48, Try.ntmps48
  go_wp2_with fail
  refine HN.out.mono ?_
  rintro e w1 ho
  obtain ⟨A1, c1, rfl, hsp1, hb1⟩ := use_newRep ho HR.out
  have HC := Lib.hid (Nth_any A1 r.length c1 r i w1 hsp1 (by have := HR.out.1.len_le; omega) HR.out.1 hi)
  have HB1 := Lib.hid hb1
  clear ho hsp1 hb1
  go_wp2_with fail
  refine HC.out.out.mono ?_
  rintro e w2 ⟨rfl, q, rfl⟩
  go_wp2_with fail
  go_ret2
  exact ⟨rfl, below_drewN HB1.out _⟩

set_option maxRecDepth 100000 in
set_option maxHeartbeats 8000000 in
theorem rCount_any (A : Option Addr) (n c : Nat) (l r : List Sp) (w : World) (h : Spans w A n l) (hw : SpW l) (hn : n < 1048576) (hr : Rep r (Mem l)) :
    Gives Try.prog 35 #[.slice A n c] w (.int .i64 (cnt r)) := by
  have HN := Lib.hid (rNorm_any A n c l w h hw hn)
  have HR := Lib.hid hr
  clear h hr
  unfold Gives
  go_enter Try.func35, Try.ntmps35
  go_wp2_with fail
  refine HN.out.mono ?_
  rintro e w1 ho
  obtain ⟨A1, c1, rfl, hsp1, hb1⟩ := use_newRep ho HR.out
  have HS1 := Lib.hid hsp1
  have HB1 := Lib.hid hb1
  have hlb := HR.out.1.len_le
  clear ho hsp1 hb1
  go_wp2_with fail
  go_loopw [3, 5] (fun s j wr => ∃ (k q : Nat), k ≤ r.length ∧ j = .int .i64 k ∧ s = .int .i64 (cnt (r.take k)) ∧ wr = w1.drewN q) (fun _ j _ => r.length - (intOf j).toNat)
  case atStart => exact ⟨0, 0, Nat.zero_le _, rfl, rfl, rfl⟩
  case round =>
  obtain ⟨k, q, hk, rfl, rfl, rfl⟩ := hrel
  by_cases hlt : k < r.length
  · obtain ⟨b, off, p, rfl, hp, hc1, hc2⟩ := HS1.out.at_ hlt
    have hxb := PlainF.mem HR.out.1 (List.mem_of_getElem? hp)
    have e : cnt (r.take (k + 1)) = cnt (r.take k) + (p.2 - p.1 + 1) := by rw [take_snoc? hp, cnt_append, cnt_cons, cnt_nil]; omega
    have hct1 := Plain.cnt_take HR.out.1 k
    have hct2 := Plain.cnt_take HR.out.1 (k + 1)
    have E := Lib.hid e
    obtain ⟨x1, x2⟩ := p
    simp only at hxb hct2 e hc1 hc2
    rw [e] at hct2
    clear e hp
    go_wp2_with fail
    go_quiet (fail)
    go_wp2_with fail
    go_roundw
    case rel => exact ⟨k + 1, _, by omega, by go_num, by rw [E.out]; go_num, rfl⟩
    case measure => simp [intOf]; omega
  · have hd : decide (k < r.length) = false := by simpa using hlt
    obtain rfl : k = r.length := by omega
    go_wp2_with fail
    go_ret
    exact ⟨ret_int (by rw [List.take_length]), below_drewN HB1.out _⟩
end Go.Proofs.Ytdaagdohhnhbdaa
