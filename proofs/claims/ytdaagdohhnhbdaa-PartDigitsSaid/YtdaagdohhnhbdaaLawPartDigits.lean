/- umlautlaw03.PartDigits: the walk. The parts of six bits each of a number of 18 bits, moved to where they were, are the number together. Condition: none beyond the row's own. -/
import Derived.Test.YtdaagdohhnhbdaaLift03
namespace Go.Proofs.Ytdaagdohhnhbdaa
open Go.RowKit Go.Shelf
set_option linter.unusedVariables false
set_option linter.unusedSimpArgs false

theorem dig_val (d t u n : Int) (hb : bitsB d t u = true) (h0 : 0 ≤ n) (h1 : n ≤ 2097151) {v : Int} (hv : n / pw d % pw t * pw u = v) : vNum d t u n = v ∧ vOk d t u n = true := by
  have h : vOk d t u n = true := (vOk_iff _ _ _ _).2 ⟨hb, h0, h1⟩
  exact ⟨by unfold vNum; rw [h]; exact hv, h⟩
/-- the sum of the parts ahead of the k-th -/
def digS (n : Int) (k : Int) : Int := if k = 0 then 0 else if k = 1 then n % 64 else if k = 2 then n % 4096 else n

set_option maxRecDepth 100000 in
set_option maxHeartbeats 16000000 in
theorem PartDigits_walk (x c : Int) (w : World) (wx : (Lit.int .i64 x).wf = true) (wc : (Lit.int .u8 c).wf = true) :
    Calls Try.prog 4 #[.int .i64 x, .int .u8 c] w fun e w' => e = .returned (.bool true) ∧ Below w.heap.size w w' := by
  have hc : 0 ≤ c ∧ c ≤ 255 := by simpa [Lit.wf, IntKind.min, IntKind.max, IntKind.signed, IntKind.bits] using wc
  clear wx wc
  have HK : Hid (St w w (fun W => True)) := Lib.hid (St.start (fun W hW => trivial))
  obtain ⟨xu, hxu, hxu0, hxu1⟩ := u64_ex x
  obtain ⟨n, hn, hn0, hn1⟩ := tmod_ex xu 262144 hxu0 (by omega)
  obtain ⟨q, hq, hq0, hq1⟩ := tmod_ex c 3 hc.1 (by omega)
  obtain ⟨hc0, hc1⟩ := hc
  have hq3 : q = 0 ∨ q = 1 ∨ q = 2 := by omega
  rcases hq3 with rfl | rfl | rfl
  · obtain ⟨a, ha⟩ : ∃ a, n % 64 = a := ⟨_, rfl⟩
    obtain ⟨b, hb⟩ : ∃ b, n / 64 = b := ⟨_, rfl⟩
    have HA := Lib.hid (dig_val 0 6 0 n (by decide) hn0 (by omega) (v := a) (by show n / 1 % 64 * 1 = a; omega))
    have HB := Lib.hid (dig_val 6 21 0 n (by decide) hn0 (by omega) (v := b) (by show n / 64 % 2097152 * 1 = b; omega))
    have hb0 : 0 ≤ b ∧ b ≤ 262144 := by omega
    have ha0 : 0 ≤ a ∧ a ≤ 262144 := by omega
    obtain ⟨hb0, hb1⟩ := hb0
    obtain ⟨ha0, ha1⟩ := ha0
    have hab : Hid (a + b * 64 = n) := by unfold Hid; omega
    have hsum : a + b * 64 = n := hab.out
    clear ha hb
    go_enter Try.func4, Try.ntmps4
    go_wp2_with fail
    go_loopw [7, 8] (fun s i wr => ∃ k : Int, 0 ≤ k ∧ k ≤ 3 ∧ s = .int .i64 (digS n k) ∧ i = .int .i64 (6 * k) ∧ Hid (St w wr (fun W => True))) (fun _ i _ => (18 - intOf i).toNat)
    case atStart => exact ⟨0, by omega, by omega, rfl, rfl, HK⟩
    case round =>
    obtain ⟨k, hk0, hk3, rfl, rfl, HK⟩ := hrel
    have hk4 : k = 0 ∨ k = 1 ∨ k = 2 ∨ k = 3 := by omega
    rcases hk4 with rfl | rfl | rfl | rfl
    · obtain ⟨v, hv⟩ : ∃ v, n / pw 0 % pw 6 * pw 0 = v := ⟨_, rfl⟩
      have HV := Lib.hid (dig_val 0 6 0 n (by decide) hn0 (by omega) hv)
      have hv1 : n / 1 % 64 * 1 = v := hv
      obtain ⟨s0, hs0⟩ : ∃ s, digS n 0 = s := ⟨_, rfl⟩
      obtain ⟨s1, hs1⟩ : ∃ s, digS n 1 = s := ⟨_, rfl⟩
      have e0 : digS n 0 = 0 := by simp [digS]
      have e1 : digS n 1 = n % 64 := by simp [digS]
      have hss : s0 + v = s1 := by omega
      have hb00 : 0 ≤ s0 ∧ s0 ≤ 262144 ∧ 0 ≤ v ∧ v ≤ 262144 := by omega
      obtain ⟨hb00, hb01, hb02, hb03⟩ := hb00
      have HS1 := Lib.hid hs1
      clear hv hv1 e0 e1 hs1
      rw [hs0]
      clear hs0
      go_wp2_with fail
      refine (Value_st HK 0 0 6 0 n HV.out.1 HV.out.2).mono ?_
      rintro e w1 ⟨rfl, HK⟩
      go_wp2_with fail
      exact ⟨⟨1, by omega, by omega, by rw [HS1.out], by go_num, HK⟩, by simp [intOf]⟩
    · obtain ⟨v, hv⟩ : ∃ v, n / pw 6 % pw 6 * pw 6 = v := ⟨_, rfl⟩
      have HV := Lib.hid (dig_val 6 6 6 n (by decide) hn0 (by omega) hv)
      have hv1 : n / 64 % 64 * 64 = v := hv
      obtain ⟨s0, hs0⟩ : ∃ s, digS n 1 = s := ⟨_, rfl⟩
      obtain ⟨s1, hs1⟩ : ∃ s, digS n 2 = s := ⟨_, rfl⟩
      have e0 : digS n 1 = n % 64 := by simp [digS]
      have e1 : digS n 2 = n % 4096 := by simp [digS]
      have hss : s0 + v = s1 := by omega
      have hb00 : 0 ≤ s0 ∧ s0 ≤ 262144 ∧ 0 ≤ v ∧ v ≤ 262144 := by omega
      obtain ⟨hb00, hb01, hb02, hb03⟩ := hb00
      have HS1 := Lib.hid hs1
      clear hv hv1 e0 e1 hs1
      rw [hs0]
      clear hs0
      go_wp2_with fail
      refine (Value_st HK 0 6 6 6 n HV.out.1 HV.out.2).mono ?_
      rintro e w1 ⟨rfl, HK⟩
      go_wp2_with fail
      exact ⟨⟨2, by omega, by omega, by rw [HS1.out], by go_num, HK⟩, by simp [intOf]⟩
    · obtain ⟨v, hv⟩ : ∃ v, n / pw 12 % pw 6 * pw 12 = v := ⟨_, rfl⟩
      have HV := Lib.hid (dig_val 12 6 12 n (by decide) hn0 (by omega) hv)
      have hv1 : n / 4096 % 64 * 4096 = v := hv
      obtain ⟨s0, hs0⟩ : ∃ s, digS n 2 = s := ⟨_, rfl⟩
      obtain ⟨s1, hs1⟩ : ∃ s, digS n 3 = s := ⟨_, rfl⟩
      have e0 : digS n 2 = n % 4096 := by simp [digS]
      have e1 : digS n 3 = n := by simp [digS]
      have hss : s0 + v = s1 := by omega
      have hb00 : 0 ≤ s0 ∧ s0 ≤ 262144 ∧ 0 ≤ v ∧ v ≤ 262144 := by omega
      obtain ⟨hb00, hb01, hb02, hb03⟩ := hb00
      have HS1 := Lib.hid hs1
      clear hv hv1 e0 e1 hs1
      rw [hs0]
      clear hs0
      go_wp2_with fail
      refine (Value_st HK 0 12 6 12 n HV.out.1 HV.out.2).mono ?_
      rintro e w1 ⟨rfl, HK⟩
      go_wp2_with fail
      exact ⟨⟨3, by omega, by omega, by rw [HS1.out], by go_num, HK⟩, by simp [intOf]⟩
    · have e3 : digS n 3 = n := by simp [digS]
      rw [e3]
      go_wp2_with fail
      refine (Value_st HK 0 0 6 0 n HA.out.1 HA.out.2).mono ?_
      rintro e w1 ⟨rfl, HK⟩
      go_wp2_with fail
      refine (Value_st HK 0 6 21 0 n HB.out.1 HB.out.2).mono ?_
      rintro e w2 ⟨rfl, HK⟩
      go_wp2_with fail
      refine (awake03_st HK).mono ?_
      rintro e w3 ⟨rfl, HK⟩
      go_wp2_with fail
      go_ret
      exact ⟨rfl, HK.out.2⟩
  · obtain ⟨a, ha⟩ : ∃ a, n % 4096 = a := ⟨_, rfl⟩
    obtain ⟨b, hb⟩ : ∃ b, n / 4096 = b := ⟨_, rfl⟩
    have HA := Lib.hid (dig_val 0 12 0 n (by decide) hn0 (by omega) (v := a) (by show n / 1 % 4096 * 1 = a; omega))
    have HB := Lib.hid (dig_val 12 21 0 n (by decide) hn0 (by omega) (v := b) (by show n / 4096 % 2097152 * 1 = b; omega))
    have hb0 : 0 ≤ b ∧ b ≤ 262144 := by omega
    have ha0 : 0 ≤ a ∧ a ≤ 262144 := by omega
    obtain ⟨hb0, hb1⟩ := hb0
    obtain ⟨ha0, ha1⟩ := ha0
    have hab : Hid (a + b * 4096 = n) := by unfold Hid; omega
    have hsum : a + b * 4096 = n := hab.out
    clear ha hb
    go_enter Try.func4, Try.ntmps4
    go_wp2_with fail
    go_loopw [7, 8] (fun s i wr => ∃ k : Int, 0 ≤ k ∧ k ≤ 3 ∧ s = .int .i64 (digS n k) ∧ i = .int .i64 (6 * k) ∧ Hid (St w wr (fun W => True))) (fun _ i _ => (18 - intOf i).toNat)
    case atStart => exact ⟨0, by omega, by omega, rfl, rfl, HK⟩
    case round =>
    obtain ⟨k, hk0, hk3, rfl, rfl, HK⟩ := hrel
    have hk4 : k = 0 ∨ k = 1 ∨ k = 2 ∨ k = 3 := by omega
    rcases hk4 with rfl | rfl | rfl | rfl
    · obtain ⟨v, hv⟩ : ∃ v, n / pw 0 % pw 6 * pw 0 = v := ⟨_, rfl⟩
      have HV := Lib.hid (dig_val 0 6 0 n (by decide) hn0 (by omega) hv)
      have hv1 : n / 1 % 64 * 1 = v := hv
      obtain ⟨s0, hs0⟩ : ∃ s, digS n 0 = s := ⟨_, rfl⟩
      obtain ⟨s1, hs1⟩ : ∃ s, digS n 1 = s := ⟨_, rfl⟩
      have e0 : digS n 0 = 0 := by simp [digS]
      have e1 : digS n 1 = n % 64 := by simp [digS]
      have hss : s0 + v = s1 := by omega
      have hb00 : 0 ≤ s0 ∧ s0 ≤ 262144 ∧ 0 ≤ v ∧ v ≤ 262144 := by omega
      obtain ⟨hb00, hb01, hb02, hb03⟩ := hb00
      have HS1 := Lib.hid hs1
      clear hv hv1 e0 e1 hs1
      rw [hs0]
      clear hs0
      go_wp2_with fail
      refine (Value_st HK 0 0 6 0 n HV.out.1 HV.out.2).mono ?_
      rintro e w1 ⟨rfl, HK⟩
      go_wp2_with fail
      exact ⟨⟨1, by omega, by omega, by rw [HS1.out], by go_num, HK⟩, by simp [intOf]⟩
    · obtain ⟨v, hv⟩ : ∃ v, n / pw 6 % pw 6 * pw 6 = v := ⟨_, rfl⟩
      have HV := Lib.hid (dig_val 6 6 6 n (by decide) hn0 (by omega) hv)
      have hv1 : n / 64 % 64 * 64 = v := hv
      obtain ⟨s0, hs0⟩ : ∃ s, digS n 1 = s := ⟨_, rfl⟩
      obtain ⟨s1, hs1⟩ : ∃ s, digS n 2 = s := ⟨_, rfl⟩
      have e0 : digS n 1 = n % 64 := by simp [digS]
      have e1 : digS n 2 = n % 4096 := by simp [digS]
      have hss : s0 + v = s1 := by omega
      have hb00 : 0 ≤ s0 ∧ s0 ≤ 262144 ∧ 0 ≤ v ∧ v ≤ 262144 := by omega
      obtain ⟨hb00, hb01, hb02, hb03⟩ := hb00
      have HS1 := Lib.hid hs1
      clear hv hv1 e0 e1 hs1
      rw [hs0]
      clear hs0
      go_wp2_with fail
      refine (Value_st HK 0 6 6 6 n HV.out.1 HV.out.2).mono ?_
      rintro e w1 ⟨rfl, HK⟩
      go_wp2_with fail
      exact ⟨⟨2, by omega, by omega, by rw [HS1.out], by go_num, HK⟩, by simp [intOf]⟩
    · obtain ⟨v, hv⟩ : ∃ v, n / pw 12 % pw 6 * pw 12 = v := ⟨_, rfl⟩
      have HV := Lib.hid (dig_val 12 6 12 n (by decide) hn0 (by omega) hv)
      have hv1 : n / 4096 % 64 * 4096 = v := hv
      obtain ⟨s0, hs0⟩ : ∃ s, digS n 2 = s := ⟨_, rfl⟩
      obtain ⟨s1, hs1⟩ : ∃ s, digS n 3 = s := ⟨_, rfl⟩
      have e0 : digS n 2 = n % 4096 := by simp [digS]
      have e1 : digS n 3 = n := by simp [digS]
      have hss : s0 + v = s1 := by omega
      have hb00 : 0 ≤ s0 ∧ s0 ≤ 262144 ∧ 0 ≤ v ∧ v ≤ 262144 := by omega
      obtain ⟨hb00, hb01, hb02, hb03⟩ := hb00
      have HS1 := Lib.hid hs1
      clear hv hv1 e0 e1 hs1
      rw [hs0]
      clear hs0
      go_wp2_with fail
      refine (Value_st HK 0 12 6 12 n HV.out.1 HV.out.2).mono ?_
      rintro e w1 ⟨rfl, HK⟩
      go_wp2_with fail
      exact ⟨⟨3, by omega, by omega, by rw [HS1.out], by go_num, HK⟩, by simp [intOf]⟩
    · have e3 : digS n 3 = n := by simp [digS]
      rw [e3]
      go_wp2_with fail
      refine (Value_st HK 0 0 12 0 n HA.out.1 HA.out.2).mono ?_
      rintro e w1 ⟨rfl, HK⟩
      go_wp2_with fail
      refine (Value_st HK 0 12 21 0 n HB.out.1 HB.out.2).mono ?_
      rintro e w2 ⟨rfl, HK⟩
      go_wp2_with fail
      refine (awake03_st HK).mono ?_
      rintro e w3 ⟨rfl, HK⟩
      go_wp2_with fail
      go_ret
      exact ⟨rfl, HK.out.2⟩
  · obtain ⟨a, ha⟩ : ∃ a, n % 262144 = a := ⟨_, rfl⟩
    obtain ⟨b, hb⟩ : ∃ b, n / 262144 = b := ⟨_, rfl⟩
    have HA := Lib.hid (dig_val 0 18 0 n (by decide) hn0 (by omega) (v := a) (by show n / 1 % 262144 * 1 = a; omega))
    have HB := Lib.hid (dig_val 18 21 0 n (by decide) hn0 (by omega) (v := b) (by show n / 262144 % 2097152 * 1 = b; omega))
    have hb0 : 0 ≤ b ∧ b ≤ 262144 := by omega
    have ha0 : 0 ≤ a ∧ a ≤ 262144 := by omega
    obtain ⟨hb0, hb1⟩ := hb0
    obtain ⟨ha0, ha1⟩ := ha0
    have hab : Hid (a + b * 262144 = n) := by unfold Hid; omega
    have hsum : a + b * 262144 = n := hab.out
    clear ha hb
    go_enter Try.func4, Try.ntmps4
    go_wp2_with fail
    go_loopw [7, 8] (fun s i wr => ∃ k : Int, 0 ≤ k ∧ k ≤ 3 ∧ s = .int .i64 (digS n k) ∧ i = .int .i64 (6 * k) ∧ Hid (St w wr (fun W => True))) (fun _ i _ => (18 - intOf i).toNat)
    case atStart => exact ⟨0, by omega, by omega, rfl, rfl, HK⟩
    case round =>
    obtain ⟨k, hk0, hk3, rfl, rfl, HK⟩ := hrel
    have hk4 : k = 0 ∨ k = 1 ∨ k = 2 ∨ k = 3 := by omega
    rcases hk4 with rfl | rfl | rfl | rfl
    · obtain ⟨v, hv⟩ : ∃ v, n / pw 0 % pw 6 * pw 0 = v := ⟨_, rfl⟩
      have HV := Lib.hid (dig_val 0 6 0 n (by decide) hn0 (by omega) hv)
      have hv1 : n / 1 % 64 * 1 = v := hv
      obtain ⟨s0, hs0⟩ : ∃ s, digS n 0 = s := ⟨_, rfl⟩
      obtain ⟨s1, hs1⟩ : ∃ s, digS n 1 = s := ⟨_, rfl⟩
      have e0 : digS n 0 = 0 := by simp [digS]
      have e1 : digS n 1 = n % 64 := by simp [digS]
      have hss : s0 + v = s1 := by omega
      have hb00 : 0 ≤ s0 ∧ s0 ≤ 262144 ∧ 0 ≤ v ∧ v ≤ 262144 := by omega
      obtain ⟨hb00, hb01, hb02, hb03⟩ := hb00
      have HS1 := Lib.hid hs1
      clear hv hv1 e0 e1 hs1
      rw [hs0]
      clear hs0
      go_wp2_with fail
      refine (Value_st HK 0 0 6 0 n HV.out.1 HV.out.2).mono ?_
      rintro e w1 ⟨rfl, HK⟩
      go_wp2_with fail
      exact ⟨⟨1, by omega, by omega, by rw [HS1.out], by go_num, HK⟩, by simp [intOf]⟩
    · obtain ⟨v, hv⟩ : ∃ v, n / pw 6 % pw 6 * pw 6 = v := ⟨_, rfl⟩
      have HV := Lib.hid (dig_val 6 6 6 n (by decide) hn0 (by omega) hv)
      have hv1 : n / 64 % 64 * 64 = v := hv
      obtain ⟨s0, hs0⟩ : ∃ s, digS n 1 = s := ⟨_, rfl⟩
      obtain ⟨s1, hs1⟩ : ∃ s, digS n 2 = s := ⟨_, rfl⟩
      have e0 : digS n 1 = n % 64 := by simp [digS]
      have e1 : digS n 2 = n % 4096 := by simp [digS]
      have hss : s0 + v = s1 := by omega
      have hb00 : 0 ≤ s0 ∧ s0 ≤ 262144 ∧ 0 ≤ v ∧ v ≤ 262144 := by omega
      obtain ⟨hb00, hb01, hb02, hb03⟩ := hb00
      have HS1 := Lib.hid hs1
      clear hv hv1 e0 e1 hs1
      rw [hs0]
      clear hs0
      go_wp2_with fail
      refine (Value_st HK 0 6 6 6 n HV.out.1 HV.out.2).mono ?_
      rintro e w1 ⟨rfl, HK⟩
      go_wp2_with fail
      exact ⟨⟨2, by omega, by omega, by rw [HS1.out], by go_num, HK⟩, by simp [intOf]⟩
    · obtain ⟨v, hv⟩ : ∃ v, n / pw 12 % pw 6 * pw 12 = v := ⟨_, rfl⟩
      have HV := Lib.hid (dig_val 12 6 12 n (by decide) hn0 (by omega) hv)
      have hv1 : n / 4096 % 64 * 4096 = v := hv
      obtain ⟨s0, hs0⟩ : ∃ s, digS n 2 = s := ⟨_, rfl⟩
      obtain ⟨s1, hs1⟩ : ∃ s, digS n 3 = s := ⟨_, rfl⟩
      have e0 : digS n 2 = n % 4096 := by simp [digS]
      have e1 : digS n 3 = n := by simp [digS]
      have hss : s0 + v = s1 := by omega
      have hb00 : 0 ≤ s0 ∧ s0 ≤ 262144 ∧ 0 ≤ v ∧ v ≤ 262144 := by omega
      obtain ⟨hb00, hb01, hb02, hb03⟩ := hb00
      have HS1 := Lib.hid hs1
      clear hv hv1 e0 e1 hs1
      rw [hs0]
      clear hs0
      go_wp2_with fail
      refine (Value_st HK 0 12 6 12 n HV.out.1 HV.out.2).mono ?_
      rintro e w1 ⟨rfl, HK⟩
      go_wp2_with fail
      exact ⟨⟨3, by omega, by omega, by rw [HS1.out], by go_num, HK⟩, by simp [intOf]⟩
    · have e3 : digS n 3 = n := by simp [digS]
      rw [e3]
      go_wp2_with fail
      refine (Value_st HK 0 0 18 0 n HA.out.1 HA.out.2).mono ?_
      rintro e w1 ⟨rfl, HK⟩
      go_wp2_with fail
      refine (Value_st HK 0 18 21 0 n HB.out.1 HB.out.2).mono ?_
      rintro e w2 ⟨rfl, HK⟩
      go_wp2_with fail
      refine (awake03_st HK).mono ?_
      rintro e w3 ⟨rfl, HK⟩
      go_wp2_with fail
      go_ret
      exact ⟨rfl, HK.out.2⟩
end Go.Proofs.Ytdaagdohhnhbdaa
