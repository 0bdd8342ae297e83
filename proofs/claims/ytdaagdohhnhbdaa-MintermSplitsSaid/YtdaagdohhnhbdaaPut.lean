/- Contracts of umlautref01.put and umlautref01.borders. Condition: lists shorter than 2^30. -/
import Derived.Test.YtdaagdohhnhbdaaCheck
namespace Go.Proofs.Ytdaagdohhnhbdaa
open Go.RowKit
set_option linter.unusedVariables false

theorem one1 {x : Value} (h : x.oneCell' = true) : ∀ u ∈ [x], u.oneCell' = true := by intro u hu; simp at hu; subst hu; exact h
theorem one2 {x y : Value} (h : x.oneCell' = true) (k : y.oneCell' = true) : ∀ u ∈ [x, y], u.oneCell' = true := by
  intro u hu; simp at hu; rcases hu with rfl | rfl
  · exact h
  · exact k
/-- rising -/
def Rise (xs : List Int) : Prop := ∀ (i j : Nat) (x y : Int), i < j → xs[i]? = some x → xs[j]? = some y → x < y
theorem info3 : (Try.prog.info? 3).map (fun i => (i.zero, i.size, i.bytes)) = some (some (.int .i64 0), 1, 8) := by kernel_rfl
/-- the list with a number more at a place -/
def insAt (xs : List Int) (lo : Nat) (x : Int) : List Int := xs.take lo ++ x :: xs.drop lo
theorem insAt_get (xs : List Int) (lo : Nat) (x : Int) (h : lo ≤ xs.length) (j : Nat) : (insAt xs lo x)[j]? = if j < lo then xs[j]? else if j = lo then some x else xs[j - 1]? := by
  unfold insAt
  rw [List.getElem?_append]
  simp only [List.length_take, Nat.min_eq_left h]
  split
  · rw [List.getElem?_take, if_pos (by assumption)]
  · rename_i h1
    split
    · rename_i h2; subst h2; simp
    · rename_i h2
      rw [show j - lo = (j - lo - 1) + 1 from by omega, List.getElem?_cons_succ, List.getElem?_drop]
      congr 1; omega
theorem insAt_rise (xs : List Int) (lo : Nat) (x : Int) (h : lo ≤ xs.length) (hr : Rise xs) (h1 : ∀ i y, i < lo → xs[i]? = some y → y < x) (h2 : ∀ i y, lo ≤ i → xs[i]? = some y → x < y) : Rise (insAt xs lo x) := by
  intro i j a b hij ha hb
  rw [insAt_get xs lo x h] at ha hb
  split at ha
  · split at hb
    · exact hr i j a b hij ha hb
    · split at hb
      · cases hb; exact h1 i a (by assumption) ha
      · have := h1 i a (by assumption) ha
        have := h2 (j - 1) b (by omega) hb
        omega
  · split at ha
    · cases ha
      rw [if_neg (by omega), if_neg (by omega)] at hb
      exact h2 (j - 1) b (by omega) hb
    · rw [if_neg (by omega), if_neg (by omega)] at hb
      exact hr (i - 1) (j - 1) a b (by omega) ha hb
theorem insAt_mem (xs : List Int) (lo : Nat) (x y : Int) : y ∈ insAt xs lo x ↔ y = x ∨ y ∈ xs := by
  unfold insAt
  rw [List.mem_append, List.mem_cons]
  conv => rhs; rw [← List.take_append_drop lo xs, List.mem_append]
  constructor
  · rintro (h | h | h)
    · exact .inr (.inl h)
    · exact .inl h
    · exact .inr (.inr h)
  · rintro (h | h | h)
    · exact .inr (.inl h)
    · exact .inl h
    · exact .inr (.inr h)
theorem insAt_length (xs : List Int) (lo : Nat) (x : Int) (h : lo ≤ xs.length) : (insAt xs lo x).length = xs.length + 1 := by
  simp [insAt]; omega

/-- what put leaves -/
def PutPost (base : Nat) (w : World) (xs : List Int) (x : Int) (e : Ending) (w' : World) : Prop :=
  ∃ v' ys, e = .returned v' ∧ w'.ownsRow base 3 1 v' ys.length (ys.map (Value.int .i64)) ∧ Rise ys ∧ (∀ y, y ∈ ys ↔ y = x ∨ y ∈ xs) ∧ ys.length ≤ xs.length + 1 ∧ Below base w w'

set_option maxRecDepth 100000 in
set_option maxHeartbeats 2000000 in
theorem put_any (base : Nat) (v : Value) (xs : List Int) (x : Int) (w : World) (hown : w.ownsRow base 3 1 v xs.length (xs.map (Value.int .i64))) (hr : Rise xs) (hn : xs.length < 1073741824) (hbase : base ≤ w.heap.size) (hx0 : -9223372036854775808 ≤ x) (hx1 : x ≤ 9223372036854775807) :
    Calls Try.prog 109 #[v, .int .i64 x] w (PutPost base w xs x) := by
  obtain ⟨i0, hi, hz0, hz1, hz2⟩ := info_parts info3
  obtain ⟨A, c, rfl⟩ : ∃ A c, v = .slice A xs.length c := by
    rcases hown.2 with ⟨rfl, h0⟩ | ⟨g, cap, cur, rfl, _⟩
    · exact ⟨none, 0, by rw [h0]⟩
    · exact ⟨_, _, rfl⟩
  have HI : Hid (Ints .i64 w A xs.length xs) := Sl.of_own hown
  have HR := Lib.hid hr
  have HO := Lib.hid hown
  clear hr hown
  generalize hn0 : xs.length = n at *
  have HN := Lib.hid hn0
  clear hn0
  go_enter Try.func109, Try.ntmps109
  go_wp2_with fail
  go_loop [5, 6] (fun lo hi => ∃ a b : Nat, a ≤ b ∧ b ≤ n ∧ lo = .int .i64 a ∧ hi = .int .i64 b ∧ Hid (∀ i y, i < a → xs[i]? = some y → y < x) ∧ Hid (∀ i y, b ≤ i → xs[i]? = some y → x ≤ y)) (fun lo hi => (intOf hi).toNat - (intOf lo).toNat)
  case atStart => exact ⟨0, n, by omega, by omega, rfl, rfl, Lib.hid fun i y h => by omega, Lib.hid fun i y h hy => by have := (List.getElem?_eq_some_iff.1 hy).1; have := HN.out; omega⟩
  case round =>
  obtain ⟨a, b, hab, hb, rfl, rfl, hlo, hhi⟩ := hrel
  by_cases hlt : a < b
  · obtain ⟨g, off, y, rfl, hy, hc⟩ := HI.out.at_ (j := (a + b) / 2) (by omega)
    have HY := Lib.hid hy
    clear hy
    have hm0 : (a + b) / 2 < b := by omega
    have hm1 : a ≤ (a + b) / 2 := by omega
    go_wp2_with fail
    · go_round
      case rel =>
        refine ⟨(a + b) / 2 + 1, b, by omega, by omega, by go_num, rfl, Lib.hid fun i z hi hz => ?_, hhi⟩
        rcases Nat.lt_or_ge i ((a + b) / 2) with h | h
        · have := HR.out i _ z y h hz HY.out; omega
        · have : i = (a + b) / 2 := by omega
          subst this
          have := HY.out.symm.trans hz
          simp at this; omega
      case measure => simp [intOf]; omega
    · go_round
      case rel =>
        refine ⟨a, (a + b) / 2, by omega, by omega, rfl, by go_num, hlo, Lib.hid fun i z hi hz => ?_⟩
        rcases Nat.lt_or_ge ((a + b) / 2) i with h | h
        · have := HR.out _ i y z h HY.out hz; omega
        · have : i = (a + b) / 2 := by omega
          subst this
          have := HY.out.symm.trans hz
          simp at this; omega
      case measure => simp [intOf]; omega
  obtain rfl : a = b := by omega
  clear hlt hab
  have hfin : Hid (∀ (W : World) (A' : Option Addr) (c' : Nat), W.ownsRow base 3 1 (.slice A' (n + 1) c') (n + 1) ((insAt xs a x).map (Value.int .i64)) → (∀ i y, a ≤ i → xs[i]? = some y → x < y) → Below base w W → PutPost base w xs x (.returned (.slice A' (n + 1) c')) W) := by
    refine Lib.hid fun W A' c' hW hgt hbW => ⟨_, insAt xs a x, rfl, ?_, insAt_rise xs a x (by have := HN.out; omega) HR.out hlo.out hgt, insAt_mem xs a x, ?_, hbW⟩
    · rw [insAt_length xs a x (by have := HN.out; omega), HN.out]; exact hW
    · rw [insAt_length xs a x (by have := HN.out; omega)]; omega
  by_cases han : a < n
  · obtain ⟨g, off, y, rfl, hy, hc⟩ := HI.out.at_ han
    have HY := Lib.hid hy
    clear hy
    by_cases hxy : y = x
    · have hb1 : (y == x) = true := by simpa using hxy
      have HE := Lib.hid hxy
      clear hxy
      go_wp2_with fail
      go_ret
      refine ⟨_, xs, rfl, by rw [HN.out]; exact HO.out, HR.out, fun z => ⟨fun h => .inr h, fun h => h.elim (fun e => by rw [e, ← HE.out]; exact List.mem_of_getElem? HY.out) id⟩, by omega, Below.refl _ _⟩
    · have hb1 : (y == x) = false := by simpa using hxy
      have hgt : Hid (∀ i z, a ≤ i → xs[i]? = some z → x < z) := by
        refine Lib.hid fun i z hi hz => ?_
        have h1 := hhi.out a y (Nat.le_refl _) HY.out
        rcases Nat.lt_or_ge a i with h | h
        · have := HR.out a i y z h HY.out hz; omega
        · have : i = a := by omega
          subst this
          have := HY.out.symm.trans hz
          simp at this; omega
      clear hxy
      go_wp2_with (at_builtin; go_must (refine wpList_push (w0 := w) rfl _ _ 62 rfl base 3 i0 (.int .i64 0) 1 8 Try.underlying62 hi hz0 hz1 hz2 rfl (by decide) HO.out rfl [.int .i64 0] _ rfl rfl (one1 rfl) (by omega) (by omega) hbase ?_); intro v' w2 hown2 hg2 _)
      obtain ⟨g2, cap2, rfl, hb2, hl2⟩ := hown2.form (by omega)
      have hbel := below_pushed (Below.refl base w) HO.out (Nat.le_refl _) hbase hg2
      have HO2 := Lib.hid hown2
      clear hown2 hg2 hc hb1
      go_wp2_with fail
      go_simp
      go_wp2_with fail
      go_loopw [8] (fun i wr => ∃ (q : Nat) (L : List Value), a ≤ q ∧ q ≤ n ∧ i = .int .i64 q ∧ wr.ownsRow base 3 1 (.slice (some ⟨g2, 0, none⟩) (n + 1) cap2) (n + 1) L ∧ Below base w wr ∧ Hid (∀ j, j < q → L[j]? = (xs[j]?).map (Value.int .i64)) ∧ Hid (∀ j, q < j → j ≤ n → L[j]? = (xs[j - 1]?).map (Value.int .i64))) (fun i _ => (intOf i).toNat)
      case atStart =>
        refine ⟨n, _, by omega, Nat.le_refl _, by go_num, HO2.out, hbel, Lib.hid fun j hj => ?_, Lib.hid fun j hj hj2 => by omega⟩
        rw [List.getElem?_append_left (by simp; have := HN.out; omega), List.getElem?_map]
      case round =>
      obtain ⟨q, L, hq, hqn, rfl, hL, hbel, hlow, hhigh⟩ := hrel
      have hLl := hL.1
      by_cases hqa : a < q
      · obtain ⟨q', rfl⟩ : ∃ q', q = q' + 1 := ⟨q - 1, by omega⟩
        obtain ⟨z, hz⟩ : ∃ z, xs[q']? = some z := ⟨_, List.getElem?_eq_getElem (by have := HN.out; omega)⟩
        have hd1 : wr.cell? ⟨g2, q', none⟩ = some (.int .i64 z) := by rw [hL.cellAt q' (by omega), hlow.out q' (by omega), hz]; rfl
        have hd2 : wr.cell? ⟨g2, q' + 1, none⟩ = some (L[q' + 1]'(by omega)) := by rw [hL.cellAt (q' + 1) (by omega)]; exact List.getElem?_eq_getElem (by omega)
        generalize L[q' + 1]'(by omega) = u0 at hd2
        have hf := hL.frozenAt (q' + 1)
        obtain ⟨hL2, _⟩ := hL.stored (q' + 1) (.int .i64 z)
        have hbel2 : Below base w (wr.setCell ⟨g2, q' + 1, none⟩ (.int .i64 z)) := hbel.setCell hb2 _
        have HL2 := Lib.hid hL2
        have HLL := Lib.hid hLl
        have HZ := Lib.hid hz
        clear hL hL2 hLl hz hbel
        go_wp2_with fail
        go_roundw
        case rel =>
          refine ⟨q', _, by omega, by omega, by go_num, HL2.out, hbel2, Lib.hid fun j hj => ?_, Lib.hid fun j hj hj2 => ?_⟩
          · rw [List.getElem?_set_ne (by omega)]; exact hlow.out j (by omega)
          · by_cases e : j = q' + 1
            · subst e
              rw [List.getElem?_set_self (by have := HLL.out; omega), Nat.add_sub_cancel, HZ.out]; rfl
            · rw [List.getElem?_set_ne (by omega)]; exact hhigh.out j (by omega) hj2
        case measure => simp [intOf]; try omega
      · obtain rfl : q = a := by omega
        have hd2 : wr.cell? ⟨g2, q, none⟩ = some (L[q]'(by omega)) := by rw [hL.cellAt q (by omega)]; exact List.getElem?_eq_getElem (by omega)
        generalize L[q]'(by omega) = u0 at hd2
        have hf := hL.frozenAt q
        obtain ⟨hL2, _⟩ := hL.stored q (.int .i64 x)
        have hbel2 : Below base w (wr.setCell ⟨g2, q, none⟩ (.int .i64 x)) := hbel.setCell hb2 _
        have HL2 := Lib.hid hL2
        have HLL := Lib.hid hLl
        clear hL hL2 hLl hbel
        go_wp2_with fail
        go_ret
        refine hfin.out _ _ _ ?_ hgt.out hbel2
        have e : L.set q (.int .i64 x) = (insAt xs q x).map (Value.int .i64) := by
          apply List.ext_getElem?
          intro j
          have hln := HN.out
          have hLn := HLL.out
          rw [List.getElem?_map, insAt_get xs q x (by omega)]
          by_cases h1 : j < q
          · rw [if_pos h1, List.getElem?_set_ne (by omega)]; exact hlow.out j h1
          · rw [if_neg h1]
            by_cases h2 : j = q
            · rw [if_pos h2, h2, List.getElem?_set_self (by omega)]; rfl
            · rw [if_neg h2, List.getElem?_set_ne (by omega)]
              by_cases h3 : j ≤ n
              · exact hhigh.out j (by omega) h3
              · rw [List.getElem?_eq_none (by omega), List.getElem?_eq_none (by omega)]; rfl
        rw [← e]
        exact HL2.out
  · have hgt : Hid (∀ i z, a ≤ i → xs[i]? = some z → x < z) := by
      refine Lib.hid fun i z hi hz => ?_
      have := (List.getElem?_eq_some_iff.1 hz).1
      have := HN.out
      omega
    have hd0 : decide (a < n) = false := by simpa using han
    · go_wp2_with (at_builtin; go_must (refine wpList_push (w0 := w) rfl _ _ 62 rfl base 3 i0 (.int .i64 0) 1 8 Try.underlying62 hi hz0 hz1 hz2 rfl (by decide) HO.out rfl [.int .i64 0] _ rfl rfl (one1 rfl) (by omega) (by omega) hbase ?_); intro v' w2 hown2 hg2 _)
      obtain ⟨g2, cap2, rfl, hb2, hl2⟩ := hown2.form (by omega)
      have hbel := below_pushed (Below.refl base w) HO.out (Nat.le_refl _) hbase hg2
      have HO2 := Lib.hid hown2
      clear hown2 hg2
      go_wp2_with fail
      go_simp
      go_wp2_with fail
      go_loopw [8] (fun i wr => ∃ (q : Nat) (L : List Value), a ≤ q ∧ q ≤ n ∧ i = .int .i64 q ∧ wr.ownsRow base 3 1 (.slice (some ⟨g2, 0, none⟩) (n + 1) cap2) (n + 1) L ∧ Below base w wr ∧ Hid (∀ j, j < q → L[j]? = (xs[j]?).map (Value.int .i64)) ∧ Hid (∀ j, q < j → j ≤ n → L[j]? = (xs[j - 1]?).map (Value.int .i64))) (fun i _ => (intOf i).toNat)
      case atStart =>
        refine ⟨n, _, by omega, Nat.le_refl _, by go_num, HO2.out, hbel, Lib.hid fun j hj => ?_, Lib.hid fun j hj hj2 => by omega⟩
        rw [List.getElem?_append_left (by simp; have := HN.out; omega), List.getElem?_map]
      case round =>
      obtain ⟨q, L, hq, hqn, rfl, hL, hbel, hlow, hhigh⟩ := hrel
      have hLl := hL.1
      by_cases hqa : a < q
      · obtain ⟨q', rfl⟩ : ∃ q', q = q' + 1 := ⟨q - 1, by omega⟩
        obtain ⟨z, hz⟩ : ∃ z, xs[q']? = some z := ⟨_, List.getElem?_eq_getElem (by have := HN.out; omega)⟩
        have hd1 : wr.cell? ⟨g2, q', none⟩ = some (.int .i64 z) := by rw [hL.cellAt q' (by omega), hlow.out q' (by omega), hz]; rfl
        have hd2 : wr.cell? ⟨g2, q' + 1, none⟩ = some (L[q' + 1]'(by omega)) := by rw [hL.cellAt (q' + 1) (by omega)]; exact List.getElem?_eq_getElem (by omega)
        generalize L[q' + 1]'(by omega) = u0 at hd2
        have hf := hL.frozenAt (q' + 1)
        obtain ⟨hL2, _⟩ := hL.stored (q' + 1) (.int .i64 z)
        have hbel2 : Below base w (wr.setCell ⟨g2, q' + 1, none⟩ (.int .i64 z)) := hbel.setCell hb2 _
        have HL2 := Lib.hid hL2
        have HLL := Lib.hid hLl
        have HZ := Lib.hid hz
        clear hL hL2 hLl hz hbel
        exact absurd hqa (by omega)
      · obtain rfl : q = a := by omega
        have hd2 : wr.cell? ⟨g2, q, none⟩ = some (L[q]'(by omega)) := by rw [hL.cellAt q (by omega)]; exact List.getElem?_eq_getElem (by omega)
        generalize L[q]'(by omega) = u0 at hd2
        have hf := hL.frozenAt q
        obtain ⟨hL2, _⟩ := hL.stored q (.int .i64 x)
        have hbel2 : Below base w (wr.setCell ⟨g2, q, none⟩ (.int .i64 x)) := hbel.setCell hb2 _
        have HL2 := Lib.hid hL2
        have HLL := Lib.hid hLl
        clear hL hL2 hLl hbel
        go_wp2_with fail
        go_ret
        refine hfin.out _ _ _ ?_ hgt.out hbel2
        have e : L.set q (.int .i64 x) = (insAt xs q x).map (Value.int .i64) := by
          apply List.ext_getElem?
          intro j
          have hln := HN.out
          have hLn := HLL.out
          rw [List.getElem?_map, insAt_get xs q x (by omega)]
          by_cases h1 : j < q
          · rw [if_pos h1, List.getElem?_set_ne (by omega)]; exact hlow.out j h1
          · rw [if_neg h1]
            by_cases h2 : j = q
            · rw [if_pos h2, h2, List.getElem?_set_self (by omega)]; rfl
            · rw [if_neg h2, List.getElem?_set_ne (by omega)]
              by_cases h3 : j ≤ n
              · exact hhigh.out j (by omega) h3
              · rw [List.getElem?_eq_none (by omega), List.getElem?_eq_none (by omega)]; rfl
        rw [← e]
        exact HL2.out
end Go.Proofs.Ytdaagdohhnhbdaa
