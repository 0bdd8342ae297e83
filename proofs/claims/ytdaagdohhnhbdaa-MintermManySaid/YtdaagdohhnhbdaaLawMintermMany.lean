/- umlautlaw05.MintermMany: the walk. Of so many sets of one number each there are so many blocks and one more, up to the limit, and then they are refused. Condition: none beyond the row's own. -/
import Derived.Test.YtdaagdohhnhbdaaManyLaw
namespace Go.Proofs.Ytdaagdohhnhbdaa
open Go.RowKit
set_option linter.unusedVariables false
set_option linter.unusedSimpArgs false

set_option maxRecDepth 100000 in
set_option maxHeartbeats 32000000 in
theorem MintermMany_walk (x : Int) (w : World) (wx : (Lit.int .i64 x).wf = true) :
    Calls Try.prog 12 #[.int .i64 x] w fun e w' => e = .returned (.bool true) ∧ Below w.heap.size w w' := by
  clear wx
  obtain ⟨xu, hxu, hxu0, hxu1⟩ := u64_ex x
  obtain ⟨q1, hq1, hq10, hq11⟩ := tmod_ex xu 50 hxu0 (by omega)
  obtain ⟨q2, hq2, hq20, hq21⟩ := tmod_ex xu 200 hxu0 (by omega)
  obtain ⟨q3, hq3, hq30, hq31⟩ := tmod_ex xu 10 hxu0 (by omega)
  obtain ⟨k1, hk1⟩ : ∃ n : Nat, 1 + q1 = n := ⟨(1 + q1).toNat, by omega⟩
  obtain ⟨k3, hk3⟩ : ∃ n : Nat, 1018 + q3 = n := ⟨(1018 + q3).toNat, by omega⟩
  obtain ⟨k, hkk⟩ : ∃ n : Nat, n = if 190 ≤ q2 then k3 else k1 := ⟨_, rfl⟩
  have hka : 1 ≤ k := by rw [hkk]; split <;> omega
  have hkb : k ≤ 1027 := by rw [hkk]; split <;> omega
  obtain ⟨n1, hn1⟩ : ∃ n, k + 1 = n := ⟨_, rfl⟩
  have HN1 := Lib.hid hn1
  have hkn : (k : Int) + 1 = (n1 : Int) := by omega
  clear hn1
  have HSL := Lib.hid (many_splitL hka (by omega))
  have HR := Lib.hid (many_rep k (by omega))
  go_enter Try.func12, Try.ntmps12
  by_cases hc : 190 ≤ q2
  case' pos =>
    rw [if_pos hc] at hkk
    subst hkk
    clear hq1 hk1 hq10 hq11
    go_wp2_with fail
  case' neg =>
    rw [if_neg hc] at hkk
    subst hkk
    clear hq3 hk3 hq30 hq31
    go_wp2_with fail
  all_goals (
    go_loopw [4, 5] (fun fv iv wr => ∃ (i : Nat) (A : Option Addr) (c : Nat) (L : List (Item Sp)), Hid (L.length = i) ∧ i ≤ k ∧ iv = .int .i64 i ∧ fv = .slice A L.length c ∧ Hid (LRow wr w.heap.size A c L) ∧ Hid (bodies L = manyF i) ∧ Hid (Below w.heap.size w wr)) (fun _ iv _ => k - (intOf iv).toNat)
    case atStart => exact ⟨0, none, 0, [], Lib.hid rfl, Nat.zero_le _, rfl, rfl, Lib.hid (LRow.start _ _), Lib.hid rfl, Lib.hid (Below.refl _ _)⟩
    case round =>
    obtain ⟨i, A, c, L, HLI, hik, rfl, rfl, HO, HP, HB⟩ := hrel
    have hlb : L.length ≤ 1027 := by have := HLI.out; omega
    have HKT : Hid (St w wr (fun W => True)) := Lib.hid ((St.start (F := fun _ => True) (fun W hW => trivial)).step HB.out)
    by_cases hlt : i < k
    · have hlt' : (i : Int) < k := by omega
      obtain ⟨z, hz⟩ : ∃ z : Int, 2 * (i : Int) = z := ⟨_, rfl⟩
      have hz0 : 0 ≤ z ∧ z ≤ 4096 := by omega
      obtain ⟨hz0, hz1⟩ := hz0
      have HZ := Lib.hid hz
      have HLX := Lib.hid (St.lit HKT (z, z) (by intro p hp; simp at hp; subst hp; simp; omega)).out.now.1
      have HO1 := Lib.hid (HO.out.below ((Below.refl _ _).alloc (Nat.le_refl _) (.cells #[.int .i64 z, .int .i64 z] 34)))
      have HB1 := Lib.hid (HB.out.alloc HB.out.size (.cells #[.int .i64 z, .int .i64 z] 34))
      have HNX : Hid (some wr.heap.size ≠ Value.ownBlock (.slice A L.length c)) := Lib.hid (fun e => by have := (HO.out.row.lt _ e.symm).2; omega)
      go_wp2_with (at_builtin; go_must (refine wpList_pushL rfl _ _ rfl HO1.out.row rfl (.slice (some ⟨wr.heap.size, 0, none⟩) 1 1) rfl (by first | rfl | (simp; rfl) | simp) (by omega) HB1.out.size ?_); intro A5 c5 w5 HO5 HG5 HAT5)
      have HM5 := Lib.hid (HO1.out.pushed (cx := 1) (x := [(z, z)]) HLX.out (by simp) HNX.out (by rw [icells_append]; exact HO5.out) HG5.out HAT5.out)
      have hl5 : (L ++ [((some ⟨wr.heap.size, 0, none⟩, 1, [(z, z)]) : Item Sp)]).length = L.length + 1 := by simp
      exact ⟨⟨i + 1, A5, c5, L ++ [(some ⟨wr.heap.size, 0, none⟩, 1, [(z, z)])], by unfold Hid; rw [hl5, HLI.out], by omega, by go_num, by rw [hl5], by rw [hl5] at *; exact HM5, by unfold Hid; rw [bodies_append, HP.out, manyF_succ, ← HZ.out]; rfl, Lib.hid (HO1.out.bel (n := 0) HB1.out HG5.out HB1.out.size)⟩, by simp [intOf]; omega⟩
    · obtain rfl : i = k := by omega
      have hd : decide (i < i) = false := by simp
      have HKL := Lib.hid (HKT.out.add (Below.refl _ _) (G := fun W => LL A L W) (fun W hW => HO.out.ll.below hW))
      obtain ⟨z, hz⟩ : ∃ z : Int, 3 * (i : Int) = z := ⟨_, rfl⟩
      have hz0 : 0 ≤ z ∧ z ≤ 4096 := by omega
      obtain ⟨hz0, hz1⟩ := hz0
      have HK2 := St.lit HKL (-5, z) (by intro p hp; simp at hp; subst hp; simp; omega)
      rw [hz, ← HP.out] at HSL
      rw [hz] at HR
      go_wp2_with fail
      refine (Split_st HK2 (fun _ h => h.1) (fun _ h => h.2.1) (by omega) _ _ HR).mono ?_
      rintro e w2 hS
      rcases hS with ⟨hs, rfl, HK3⟩ | ⟨A3, c3, O, hs, hol, rfl, HK3⟩
      · have hbig : (1024 : Int) < n1 := by
          have h1 := HSL.out
          have h2 := HN1.out
          rw [hs] at h1
          split at h1
          · omega
          · cases h1
        clear hs
        go_wp2_with fail
        refine (awake05_st HK3).mono ?_
        rintro e w4 ⟨rfl, HK4⟩
        go_wp2_with fail
        go_ret
        exact ⟨rfl, HK4.out.2⟩
      · have hbo : ¬ 1024 < i + 1 ∧ bodies O = manyP i z := by
          have h1 := HSL.out
          rw [hs] at h1
          split at h1
          · cases h1
          · rename_i h2
            injection h1 with h1
            exact ⟨h2, h1⟩
        obtain ⟨hsm, hbo⟩ := hbo
        have hsm' : ¬ (1024 : Int) < n1 := by omega
        have hon : O.length = n1 := by rw [← bodies_length, hbo, manyP_len, HN1.out]
        have hn0 : 0 < n1 := by omega
        obtain ⟨gb, off, ba, bc, b, rfl, hx, hcl, hw⟩ := HK3.out.now.1.at_ (j := 0) (by omega)
        have hb0 : (bodies O)[0]? = some b := by unfold bodies; rw [List.getElem?_map, hx]; rfl
        rw [hbo] at hb0
        have hbl : b.length = n1 := by
          have : baseM i z = b := by simpa [manyP] using hb0
          rw [← this, baseM_len, HN1.out]
        rw [Nat.add_zero, hbl] at hcl
        clear hs hx hw hb0 hbo hsm hbl
        rw [hon] at hol ⊢
        clear hon
        go_wp2_with fail
        refine (awake05_st HK3).mono ?_
        rintro e w4 ⟨rfl, HK4⟩
        go_wp2_with fail
        go_ret
        exact ⟨rfl, HK4.out.2⟩)
end Go.Proofs.Ytdaagdohhnhbdaa
