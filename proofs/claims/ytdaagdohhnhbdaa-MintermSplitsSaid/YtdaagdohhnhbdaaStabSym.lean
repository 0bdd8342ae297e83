/- Ranges that change places, a stretch turned round, two sorted stretches merged in place: the library's walks over a row of slices. Condition: as StabRow says. -/
import Derived.Test.YtdaagdohhnhbdaaStabRow
namespace Go.Proofs.Ytdaagdohhnhbdaa
open Go.RowKit
set_option linter.unusedVariables false

set_option maxRecDepth 100000 in
set_option maxHeartbeats 16000000 in
theorem swr_any (base g cap a b n : Nat) (xs0 : List KV) (W : World) (hK : Hid (KSt W base g cap xs0)) (hab : a + n ≤ b) (hb : b + n ≤ xs0.length) (hn : xs0.length < 1099511627776) (cv : Value) :
    Calls Try.prog 138 #[.slice (some ⟨g, 0, none⟩) xs0.length cap, .int .i64 a, .int .i64 b, .int .i64 n, cv] W (KEnd W base g cap fun ys => Rch a (b + n) xs0 ys ∧ SwI xs0 ys a b n) := by
  go_enter Try.func138, Try.ntmps138
  go_wp2_with fail
  go_loopw [10] (fun iv wr => ∃ (k : Nat) (xs : List KV), iv = .int .i64 k ∧ k ≤ n ∧ Hid (Rch a (b + n) xs0 xs) ∧ Hid (SwI xs0 xs a b k) ∧ Hid (KGo W base g cap xs wr)) (fun iv _ => n - (intOf iv).toNat)
  case atStart => exact ⟨0, xs0, rfl, Nat.zero_le _, Lib.hid (Rch.refl _ _ _), Lib.hid (SwI.start _ _ _), Lib.hid (KGo.start hK.out)⟩
  case round =>
  obtain ⟨k, xs, rfl, hk, HR, HI, HG⟩ := hrel
  have hxl := HR.out.len
  by_cases hlt : k < n
  · obtain ⟨pa, hpa⟩ : ∃ p : Nat, a + k = p := ⟨_, rfl⟩
    obtain ⟨pb, hpb⟩ : ∃ p : Nat, b + k = p := ⟨_, rfl⟩
    have hk1 : (a : Int) + (k : Int) = (pa : Int) := by omega
    have hk2 : (b : Int) + (k : Int) = (pb : Int) := by omega
    have hlp : pa < xs0.length ∧ pb < xs0.length := by omega
    obtain ⟨hlp1, hlp2⟩ := hlp
    obtain ⟨x, hx⟩ := get_of_lt (xs := xs) (i := pa) (by omega)
    obtain ⟨y, hy⟩ := get_of_lt (xs := xs) (i := pb) (by omega)
    have hc1 := HG.out.1.at_ hx
    have hc2 := HG.out.1.at_ hy
    have hf1 := HG.out.1.row.frozenAt pa
    have hf2 := HG.out.1.row.frozenAt pb
    have hc3 := HG.out.1.st1 (i := pa) y.val hy (by omega)
    unfold KV.val at hc1 hc2 hc3
    have HSW := Lib.hid (HG.out.swp hx hy)
    have HR2 := Lib.hid (HR.out.trans (Rch.swap hx hy (by omega) (by omega) (by omega) (by omega) (by omega)))
    have HI2 : Hid (SwI xs0 (swapL xs pa pb x y) a b (k + 1)) := by
      have := HI.out.next (x := x) (y := y) (by omega) (by rw [hpa]; exact hx) (by rw [hpb]; exact hy)
      rw [hpa, hpb] at this
      exact this
    have hne : pa ≠ pb := by omega
    have mixed : Try.prog.follows .mixedOrders = true := by kernel_rfl
    clear hpa hpb
    clear hx hy
    go_wp2_with fail
    go_big_region_o
    clear hc1 hc2 hc3 hf1 hf2
    go_wp2_with fail
    exact ⟨⟨k + 1, _, by go_num, by omega, HR2, HI2, HSW⟩, by simp [intOf]; omega⟩
  · have hnb : ¬ ((k : Int) < n) := by omega
    obtain rfl : k = n := by omega
    go_wp2_with fail
    go_end0
    exact ⟨rfl, xs, ⟨HR.out, HI.out⟩, HG.out.1, HG.out.2⟩

set_option maxRecDepth 100000 in
set_option maxHeartbeats 16000000 in
theorem rot_any (base g cap a m b : Nat) (xs0 : List KV) (W : World) (hK : Hid (KSt W base g cap xs0)) (ham : a < m) (hmb : m < b) (hb : b ≤ xs0.length) (hn : xs0.length < 1099511627776) (cv : Value) :
    Calls Try.prog 131 #[.slice (some ⟨g, 0, none⟩) xs0.length cap, .int .i64 a, .int .i64 m, .int .i64 b, cv] W (KEnd W base g cap fun ys => Rch a b xs0 ys ∧ ∀ p, ys[p]? = RotT xs0 a m b p) := by
  obtain ⟨T, hT⟩ : ∃ T, RotT xs0 a m b = T := ⟨_, rfl⟩
  have HT : Hid (RotS T xs0 m (m - a) (b - m)) := by rw [← hT]; exact RotS.start (by omega) (by omega)
  have HTT := Lib.hid hT
  clear hT
  obtain ⟨i0, hi0⟩ : ∃ p : Nat, m - a = p := ⟨_, rfl⟩
  obtain ⟨j0, hj0⟩ : ∃ p : Nat, b - m = p := ⟨_, rfl⟩
  have e1 : (m : Int) - (a : Int) = (i0 : Int) := by omega
  have e2 : (b : Int) - (m : Int) = (j0 : Int) := by omega
  rw [hi0, hj0] at HT
  go_enter Try.func131, Try.ntmps131
  go_wp2_with fail
  go_loopw [10, 11] (fun iv jv wr => ∃ (i j : Nat) (xs : List KV), iv = .int .i64 i ∧ jv = .int .i64 j ∧ 1 ≤ i ∧ 1 ≤ j ∧ a + i ≤ m ∧ m + j ≤ b ∧ Hid (Rch a b xs0 xs) ∧ Hid (RotS T xs m i j) ∧ Hid (KGo W base g cap xs wr)) (fun iv jv _ => (intOf iv).toNat + (intOf jv).toNat)
  case atStart => exact ⟨i0, j0, xs0, rfl, rfl, by omega, by omega, by omega, by omega, Lib.hid (Rch.refl _ _ _), HT, Lib.hid (KGo.start hK.out)⟩
  case round =>
  obtain ⟨i, j, xs, rfl, rfl, hi1, hj1, hi2, hj2, HR, HI, HG⟩ := hrel
  have hxl := HR.out.len
  obtain ⟨mi, hmi⟩ : ∃ p : Nat, m - i = p := ⟨_, rfl⟩
  have e3 : (m : Int) - (i : Int) = (mi : Int) := by omega
  by_cases hij : i = j
  · subst hij
    have hne : ((i : Int) != (i : Int)) = false := by simp
    go_wp2_with fail
    rw [← hxl]
    refine (swr_any base g cap mi m i xs wr (Lib.hid HG.out.1) (by omega) (by omega) (by omega) _).mono ?_
    rintro e w2 ⟨rfl, ys, ⟨r1, r2⟩, r3, r4⟩; rw [← hmi] at r1 r2
    go_wp2_with fail
    go_end0
    exact ⟨rfl, ys, ⟨HR.out.trans (r1.mono (by omega) (by omega)), fun p => by rw [HTT.out]; exact HI.out.done r2 p⟩, (HG.out.call r3 r4).1, (HG.out.call r3 r4).2⟩
  · have hne : ((i : Int) != (j : Int)) = true := by simp; omega
    by_cases hgt : j < i
    · have hgt' : (j : Int) < i := by omega
      obtain ⟨ij, hij'⟩ : ∃ p : Nat, i - j = p := ⟨_, rfl⟩
      have e4 : (i : Int) - (j : Int) = (ij : Int) := by omega
      go_wp2_with fail
      rw [← hxl]
      refine (swr_any base g cap mi m j xs wr (Lib.hid HG.out.1) (by omega) (by omega) (by omega) _).mono ?_
      rintro e w2 ⟨rfl, ys, ⟨r1, r2⟩, r3, r4⟩; rw [← hmi] at r1 r2
      have HE := Lib.hid (HG.out.call r3 r4)
      have HR2 := Lib.hid (HR.out.trans (r1.mono (by omega) (by omega)))
      have HI2 := Lib.hid (HI.out.left hgt r2)
      rw [hij'] at HI2
      clear r1 r2 r3 r4
      rw [hxl]
      go_wp2_with fail
      exact ⟨⟨ij, j, ys, rfl, rfl, by omega, hj1, by omega, hj2, HR2, HI2, HE⟩, by simp [intOf]; omega⟩
    · have hgt' : ¬ (j : Int) < i := by omega
      obtain ⟨ji, hji⟩ : ∃ p : Nat, j - i = p := ⟨_, rfl⟩
      have e4 : (j : Int) - (i : Int) = (ji : Int) := by omega
      obtain ⟨mj, hmj⟩ : ∃ p : Nat, m + j - i = p := ⟨_, rfl⟩
      have e5 : (m : Int) + (j : Int) - (i : Int) = (mj : Int) := by omega
      go_wp2_with fail
      rw [← hxl]
      refine (swr_any base g cap mi mj i xs wr (Lib.hid HG.out.1) (by omega) (by omega) (by omega) _).mono ?_
      rintro e w2 ⟨rfl, ys, ⟨r1, r2⟩, r3, r4⟩; rw [← hmi] at r1 r2
      have HE := Lib.hid (HG.out.call r3 r4)
      have HR2 := Lib.hid (HR.out.trans (r1.mono (by omega) (by omega)))
      rw [← hmj] at r2
      have HI2 := Lib.hid (HI.out.right (by omega) r2)
      rw [hji] at HI2
      clear r1 r2 r3 r4
      rw [hxl]
      go_wp2_with fail
      exact ⟨⟨i, ji, ys, rfl, rfl, hi1, by omega, hi2, by omega, HR2, HI2, HE⟩, by simp [intOf]; omega⟩
end Go.Proofs.Ytdaagdohhnhbdaa
