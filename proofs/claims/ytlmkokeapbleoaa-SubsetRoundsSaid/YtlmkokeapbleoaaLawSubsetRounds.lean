/- What umlautlaw20.SubsetRounds computes is true. Condition: the arguments are bytes. -/
import Derived.Test.YtlmkokeapbleoaaR16
import Derived.Lib.MinMax
namespace Go.Proofs.Ytlmkokeapbleoaa
open Go.RowKit
set_option linter.unusedVariables false
set_option linter.unusedSimpArgs false
open Pairs
theorem lcm_end {i k j : Nat} (hi : 0 < i) (hk : 0 < k) (hj : 0 < j) (hd : k ∣ i * j) (hm : ∀ q, 0 < q → q < j → ¬ k ∣ i * q) : i * j = Nat.lcm i k := by
  obtain ⟨q, hq⟩ := Nat.dvd_lcm_left i k
  have hl : 0 < Nat.lcm i k := Nat.lcm_pos hi hk
  have hq0 : 0 < q := by
    rcases Nat.eq_zero_or_pos q with h | h
    · subst h; rw [hq] at hl; simp at hl
    · exact h
  have h1 : j ≤ q := by
    rcases Nat.lt_or_ge q j with h | h
    · exact absurd (by rw [← hq]; exact Nat.dvd_lcm_right i k) (hm q hq0 h)
    · exact h
  have h2 : Nat.lcm i k ∣ i * j := Nat.lcm_dvd (Nat.dvd_mul_right i j) hd
  have h3 := Nat.le_of_dvd (Nat.mul_pos hi hj) h2
  rw [hq] at h3 ⊢
  have h4 : q ≤ j := Nat.le_of_mul_le_mul_left h3 hi
  rw [Nat.le_antisymm h1 h4]
theorem rounds_at {i k : Nat} (hi : i < 7) (hk : k < 7) : roundsOk (i + 1) (k + 1) = true := by
  have h := rounds_ok
  rw [List.all_eq_true] at h
  have h2 := h i (List.mem_range.2 hi)
  rw [List.all_eq_true] at h2
  exact h2 k (List.mem_range.2 hk)
theorem let_any {P Q : Prop} {w0 w' : World} {F : World → Prop} {e : Ending} {wdl : List Nat → Prop}
    (h : (P ∧ e = .returned (.tuple #[.bool true, .slice none 0 0, .int .i64 0]) ∧ Hid (St w0 w' F)) ∨ (Q ∧ e = .returned (.tuple #[.bool false, .slice none 0 0, .int .i64 3]) ∧ Hid (St w0 w' F)) ∨ (∃ (wd : List Nat) (A : Option Addr) (c : Nat), wdl wd ∧ wd.length ≤ 4096 ∧ e = .returned (.tuple #[.bool false, .slice A wd.length c, .int .i64 0]) ∧ Hid (St w0 w' F))) :
    ∃ b A n c v, e = .returned (.tuple #[.bool b, .slice A n c, .int .i64 v]) ∧ (v = 0 ∨ v = 3) ∧ Hid (St w0 w' F) := by
  rcases h with ⟨_, h1, h2⟩ | ⟨_, h1, h2⟩ | ⟨wd, A, c, _, _, h1, h2⟩
  · exact ⟨true, none, 0, 0, 0, h1, .inl rfl, h2⟩
  · exact ⟨false, none, 0, 0, 3, h1, .inr rfl, h2⟩
  · exact ⟨false, A, wd.length, c, 0, h1, .inl rfl, h2⟩
theorem letDS_round (n : Nat) : letDS n true = roundP (n + 1) := by unfold letDS; rw [if_pos rfl]
set_option maxRecDepth 100000 in
set_option maxHeartbeats 32000000 in
theorem SubsetRounds_walk (n m : Int) (w : World) (wn : (Lit.int .u8 n).wf = true) (wm : (Lit.int .u8 m).wf = true) :
    Calls Try.prog 3 #[.int .u8 n, .int .u8 m] w fun e w' => e = .returned (.bool true) ∧ Below w.heap.size w w' := by
  have hn : 0 ≤ n ∧ n ≤ 255 := by simpa [Lit.wf, IntKind.min, IntKind.max, IntKind.signed, IntKind.bits] using wn
  have hm : 0 ≤ m ∧ m ≤ 255 := by simpa [Lit.wf, IntKind.min, IntKind.max, IntKind.signed, IntKind.bits] using wm
  clear wn wm
  have HK : Hid (St w w (fun W => True)) := Lib.hid (St.start (fun W hW => trivial))
  have hq1 : Int.tmod n 7 = ((n.toNat % 7 : Nat) : Int) := by rw [Int.tmod_eq_emod_of_nonneg hn.1]; omega
  have hq2 : Int.tmod m 7 = ((m.toNat % 7 : Nat) : Int) := by rw [Int.tmod_eq_emod_of_nonneg hm.1]; omega
  obtain ⟨i, hi⟩ : ∃ i, n.toNat % 7 = i := ⟨_, rfl⟩
  obtain ⟨k, hk⟩ : ∃ k, m.toNat % 7 = k := ⟨_, rfl⟩
  have hi7 : i < 7 := by omega
  have hk7 : k < 7 := by omega
  rw [hi] at hq1
  rw [hk] at hq2
  obtain ⟨i1, hi1⟩ : ∃ q, i + 1 = q := ⟨_, rfl⟩
  obtain ⟨k1, hk1⟩ : ∃ q, k + 1 = q := ⟨_, rfl⟩
  have HI1 := Lib.hid hi1
  have HK1 := Lib.hid hk1
  have ei : (1 : Int) + (i : Int) = (i1 : Int) := by omega
  have ek : (1 : Int) + (k : Int) = (k1 : Int) := by omega
  have ei2 : (i1 : Int) - 1 = (i : Int) := by omega
  have ek2 : (k1 : Int) - 1 = (k : Int) := by omega
  have hi0 : 1 ≤ i1 ∧ i1 ≤ 7 := by omega
  have hk0 : 1 ≤ k1 ∧ k1 ≤ 7 := by omega
  obtain ⟨hi01, hi02⟩ := hi0
  obtain ⟨hk01, hk02⟩ := hk0
  obtain ⟨hn0, hn1⟩ := hn
  obtain ⟨hm0, hm1⟩ := hm
  clear hi hk hi1 hk1
  go_enter Try.func3, Try.ntmps3
  go_wp2_with fail
  refine (letters_st HK i (by omega) true).mono ?_
  rintro e w1 ⟨A1, c1, d1, HD1, rfl, HW1⟩
  go_wp2_with fail
  refine (letters_st HW1 k (by omega) true).mono ?_
  rintro e w2 ⟨A2, c2, d2, HD2, rfl, HW2⟩
  go_wp2_with fail
  have HKA := St.box HW2 [.int .i64 d1.i, .int .i64 d1.o, .int .i64 d1.n, .int .i64 d1.s, .slice d1.ra d1.rs.length d1.rc, .slice d1.fa d1.fs.length d1.fc] 26
  have HKB := St.box HKA [.int .i64 d2.i, .int .i64 d2.o, .int .i64 d2.n, .int .i64 d2.s, .slice d2.ra d2.rs.length d2.rc, .slice d2.fa d2.fs.length d2.fc] 26
  have hsz : (w2.alloc (.cells [.int .i64 d1.i, .int .i64 d1.o, .int .i64 d1.n, .int .i64 d1.s, .slice d1.ra d1.rs.length d1.rc, .slice d1.fa d1.fs.length d1.fc].toArray 26)).heap.size = w2.heap.size + 1 := by simp
  rw [hsz] at HKB
  clear hsz HKA HW1 HW2
  obtain ⟨w3, hw3⟩ : ∃ z, (w2.alloc (.cells #[.int .i64 d1.i, .int .i64 d1.o, .int .i64 d1.n, .int .i64 d1.s, .slice d1.ra d1.rs.length d1.rc, .slice d1.fa d1.fs.length d1.fc] 26)).alloc (.cells #[.int .i64 d2.i, .int .i64 d2.o, .int .i64 d2.n, .int .i64 d2.s, .slice d2.ra d2.rs.length d2.rc, .slice d2.fa d2.fs.length d2.fc] 26) = z := ⟨_, rfl⟩
  have HK3 : Hid (St w w3 (fun W => BoxC (w2.heap.size + 1) [.int .i64 d2.i, .int .i64 d2.o, .int .i64 d2.n, .int .i64 d2.s, .slice d2.ra d2.rs.length d2.rc, .slice d2.fa d2.fs.length d2.fc] W ∧ BoxC w2.heap.size [.int .i64 d1.i, .int .i64 d1.o, .int .i64 d1.n, .int .i64 d1.s, .slice d1.ra d1.rs.length d1.rc, .slice d1.fa d1.fs.length d1.fc] W ∧ DescW d2 W ∧ DescW d1 W ∧ True)) := by rw [← hw3]; exact HKB
  rw [hw3]
  clear HKB hw3
  go_loopw [9] (fun lv wr => ∃ j : Nat, 1 ≤ j ∧ j ≤ k1 ∧ lv = .int .i64 ((i1 * j : Nat) : Int) ∧ Hid (∀ q, 0 < q → q < j → ¬ k1 ∣ i1 * q) ∧ Hid (wr = w3)) (fun lv _ => 60 - (intOf lv).toNat)
  case atStart => exact ⟨1, Nat.le_refl _, hk01, by rw [Nat.mul_one], Lib.hid (fun q h1 h2 => by omega), Lib.hid rfl⟩
  case round =>
  obtain ⟨j, hj1, hjk, rfl, HM, HW⟩ := hrel
  obtain ⟨c, hc⟩ : ∃ c, i1 * j = c := ⟨_, rfl⟩
  have hc49 : c ≤ 49 := by rw [← hc]; exact Nat.le_trans (Nat.mul_le_mul hi02 (Nat.le_trans hjk hk02)) (by decide)
  have hc1 : 1 ≤ c := by rw [← hc]; exact Nat.mul_pos hi01 hj1
  have hnx : i1 * (j + 1) = c + i1 := by rw [Nat.mul_add, hc, Nat.mul_one]
  have HC := Lib.hid hc
  have HNX := Lib.hid hnx
  have htm : Int.tmod (c : Int) (k1 : Int) = ((c % k1 : Nat) : Int) := by rw [Int.tmod_eq_emod_of_nonneg (by omega)]; omega
  rw [hc]
  obtain ⟨r, hr⟩ : ∃ r, c % k1 = r := ⟨_, rfl⟩
  rw [hr] at htm
  have HR := Lib.hid hr
  have hk0 : ¬ (k1 : Int) = 0 := by omega
  clear hc hnx hr
  by_cases hr0 : r = 0
  case neg =>
    have hne : ((r : Int) == 0) = false := by rw [beq_eq_false_iff_ne]; omega
    have hjl : j < k1 := by
      rcases Nat.lt_or_ge j k1 with h | h
      · exact h
      · have e : j = k1 := by omega
        exact absurd (by rw [← HR.out, ← HC.out, e]; exact Nat.mul_mod_left _ _) hr0
    have HM2 : Hid (∀ q, 0 < q → q < j + 1 → ¬ k1 ∣ i1 * q) := Lib.hid fun q h1 h2 h3 => by
      by_cases e : q = j
      · subst e
        rw [HC.out] at h3
        exact hr0 (by rw [← HR.out]; exact Nat.mod_eq_zero_of_dvd h3)
      · exact HM.out q h1 (by omega) h3
    go_wp2_with fail
    exact ⟨⟨j + 1, by omega, by omega, by rw [HNX.out]; rfl, HM2, HW⟩, by simp [intOf]; omega⟩
  have hw3 := HW.out
  subst hw3
  have HLC : Hid (c = lcmP i1 k1) := Lib.hid (by
    have h := lcm_end (i := i1) (k := k1) (j := j) (by omega) (by omega) (by omega) (by rw [HC.out]; exact Nat.dvd_of_mod_eq_zero (by rw [HR.out]; exact hr0)) HM.out
    rw [← HC.out]; exact h)
  subst hr0
  clear HM HNX
  obtain ⟨p0, p1, p2, p3, p4, p5⟩ := HK3.out.now.1.c6
  obtain ⟨q0, q1, q2, q3, q4, q5⟩ := HK3.out.now.2.1.c6
  have hro := rounds_at hi7 hk7
  rw [HI1.out, HK1.out] at hro
  unfold roundsOk at hro
  rw [← HLC.out] at hro
  have HDI : Hid (letDS i true = roundP i1) := Lib.hid (by rw [letDS_round, HI1.out])
  have HDK : Hid (letDS k true = roundP k1) := Lib.hid (by rw [letDS_round, HK1.out])
  have HRO := Lib.hid hro
  clear hro
  go_wp2_with fail
  refine (SubSame_st HK3 d1 d2 (fun W h => h.2.2.2.1) (fun W h => h.2.2.1) (2 * (c : Int)) (by omega)).mono ?_
  rintro e w4 hr
  have hr := let_ret (n := i) (m := k) (a := true) (b := true) HD1.out HD2.out (by omega) (by omega) (by simp; omega) hr
  rw [HDI.out, HDK.out, show (2 * (c : Int)).toNat = 2 * c by omega] at hr
  by_cases hik : i1 = k1
  · have hro := HRO.out
    rw [if_pos hik, Bool.and_eq_true, beq_iff_eq, beq_iff_eq] at hro
    obtain ⟨e1, e2⟩ := hro
    have E2 := Lib.hid e2
    rw [e1] at hr
    rcases hr with ⟨_, rfl, HK4⟩ | ⟨h, _⟩ | ⟨wd, A3, c3, h, _⟩
    rotate_left
    · cases h
    · cases h
    have hb : ((i1 : Int) == (k1 : Int)) = true := by rw [hik]; simp
    have hrw : Hid (wr = wr) := Lib.hid rfl
    clear e1 e2 hik p0 p1 p2 p3 p4 p5 q0 q1 q2 q3 q4 q5
    obtain ⟨p0, p1, p2, p3, p4, p5⟩ := HK4.out.now.1.c6
    obtain ⟨q0, q1, q2, q3, q4, q5⟩ := HK4.out.now.2.1.c6
    go_wp2_with fail
    refine (SubSame_st HK4 d1 d2 (fun W h => h.2.2.2.1) (fun W h => h.2.2.1) (c : Int) (by omega)).mono ?_
    rintro e w5 hr
    have hr := let_any (let_ret (n := i) (m := k) (a := true) (b := true) HD1.out HD2.out (by omega) (by omega) (by simp; omega) hr)
    obtain ⟨b5, A5, n5, c5, v5, rfl, hv5, HK5⟩ := hr
    clear p0 p1 p2 p3 p4 p5 q0 q1 q2 q3 q4 q5
    obtain ⟨p0, p1, p2, p3, p4, p5⟩ := HK5.out.now.1.c6
    obtain ⟨q0, q1, q2, q3, q4, q5⟩ := HK5.out.now.2.1.c6
    go_wp2_with fail
    refine (SubSame_st HK5 d1 d2 (fun W h => h.2.2.2.1) (fun W h => h.2.2.1) ((c : Int) - 1) (by omega)).mono ?_
    rintro e w6 hr
    have hr := let_ret (n := i) (m := k) (a := true) (b := true) HD1.out HD2.out (by omega) (by omega) (by simp; omega) hr
    rw [HDI.out, HDK.out, show ((c : Int) - 1).toNat = c - 1 by omega, E2.out] at hr
    rcases hr with ⟨h, _⟩ | ⟨_, rfl, HK6⟩ | ⟨wd, A3, c3, h, _⟩
    · cases h
    rotate_left
    · cases h
    clear p0 p1 p2 p3 p4 p5 q0 q1 q2 q3 q4 q5
    rcases hv5 with rfl | rfl
    all_goals
      go_wp2_with fail
      refine (awake20_st HK6).mono ?_
      rintro e w7 ⟨rfl, HK7⟩
      go_wp2_with fail
      go_ret
      exact ⟨rfl, HK7.out.2⟩
  · have hro := HRO.out
    rw [if_neg hik] at hro
    rcases hr with ⟨h, _⟩ | ⟨h, _⟩ | ⟨wd, A3, c3, h, hwl, rfl, HK4⟩
    · rw [h] at hro; cases hro
    · rw [h] at hro; cases hro
    rw [h] at hro
    have hwd : wd.length = min i1 k1 - 1 := by simpa using hro
    have hb : ((i1 : Int) == (k1 : Int)) = false := by rw [beq_eq_false_iff_ne]; omega
    obtain ⟨mm, hmm⟩ : ∃ q : Nat, min (i1 : Int) (k1 : Int) = (q : Int) := ⟨min i1 k1, by omega⟩
    have hm1 : (mm : Int) - 1 = (wd.length : Int) := by omega
    clear hro h hwd hik
    go_wp2_with fail
    refine (awake20_st HK4).mono ?_
    rintro e w7 ⟨rfl, HK7⟩
    go_wp2_with fail
    go_ret
    exact ⟨rfl, HK7.out.2⟩
end Go.Proofs.Ytlmkokeapbleoaa
