/- umlautlaw05.MintermClasses: the walk. Of any lists the place of the first one that has a number, and their least numbers, are the document's. Condition: none beyond the row's own. -/
import Derived.Test.YtdaagdohhnhbdaaMinRow
namespace Go.Proofs.Ytdaagdohhnhbdaa
open Go.RowKit
set_option linter.unusedVariables false
set_option linter.unusedSimpArgs false

set_option maxRecDepth 100000 in
set_option maxHeartbeats 16000000 in
theorem MintermClasses_walk (A : Option Addr) (n c : Nat) (L : List Lst3) (x : Int) (w : World) (h : SssIn w A n L) (wx : (Lit.int .i64 x).wf = true) :
    Calls Try.prog 14 #[.slice A n c, .int .i64 x] w fun e w' => e = .returned (.bool true) ∧ Below w.heap.size w w' := by
  have HG := Lib.hid (great05_any A n c L w h)
  clear wx
  rcases hbig : bigL L with _ | _
  · rw [hbig] at HG
    obtain ⟨rfl, hll⟩ := h.ll hbig
    have h30 := (bigL_no hbig).1
    have H30 := Lib.hid (bigL_no hbig).2
    have HK : Hid (St w w (fun W => LL A L W)) := Lib.hid (St.start hll)
    obtain ⟨v, hv⟩ : ∃ v, classI (bodies L) x = v := ⟨_, rfl⟩
    have HV := Lib.hid hv
    have hvv : (v == v) = true := by simp
    clear h hll hbig hv
    go_enter Try.func14, Try.ntmps14
    go_wp2_with (go_at_call 38; refine HG.out.mono ?_; rintro e w0 ⟨rfl, rfl⟩)
    refine (Least_st HK (fun _ h => h) (by omega) _).mono ?_
    rintro e w1 ⟨B, c1, rfl, HK⟩
    go_wp2_with fail
    go_loopw [6] (fun iv wr => ∃ k : Nat, k ≤ L.length ∧ iv = .int .i64 k ∧ Hid (St w wr (fun W => Ints .i64 W B L.length ((bodies L).map leastI) ∧ LL A L W))) (fun iv _ => L.length - (intOf iv).toNat)
    case atStart => exact ⟨0, Nat.zero_le _, rfl, HK⟩
    case round =>
    obtain ⟨k, hk, rfl, HK⟩ := hrel
    have hll : ((L.length : Int) != (L.length : Int)) = false := by simp
    by_cases hlt : k < L.length
    · obtain ⟨gb, off, ba, bc, b, hA, hx, hc, hwd⟩ := HK.out.now.2.at_ hlt
      have hbk : (bodies L)[k]? = some b := by unfold bodies; rw [List.getElem?_map, hx]; rfl
      have hbl : b.length ≤ 30 := H30.out _ (List.mem_of_getElem? hx)
      have HK2 := Lib.hid (HK.out.add (Below.refl _ _) (G := Lst ba b) (fun W hW => hwd.below hW))
      obtain ⟨bb, off2, y, hB, hy, hd⟩ := Ints.at_ HK.out.now.1 hlt
      have hyl : leastI b = y := by
        rw [List.getElem?_map, hbk] at hy
        simpa using hy
      have hn0 : nthI (normL b) 0 = nthS (normL b) 0 := if_neg (by omega)
      obtain ⟨f, hf⟩ : ∃ f, optD (nthI (normL b) 0) = f := ⟨_, rfl⟩
      have HF := Lib.hid hf
      subst hA; subst hB
      rcases hB : optB (nthI (normL b) 0) with _ | _
      · have HBB := Lib.hid hB
        have hy1 : y = -1 := by rw [← hyl]; unfold leastI; rw [← hn0, hB]; rfl
        subst hy1
        clear hx hbk hwd hy hyl hn0 hf hB
        go_wp2_with fail
        refine (rAt_st HK2 (fun _ h => h.1) (by omega) _ (normL_rep b) (by omega) HF.out HBB.out).mono ?_
        rintro e w2 ⟨rfl, HK3⟩
        obtain ⟨bb', off', y', hB', hy', hd'⟩ := Ints.at_ HK3.out.now.2.1 hlt
        injection hB' with hB'
        injection hB' with e1 e2 e3
        subst e1; subst e2
        have hc3 := hd'
        have hyy : y' = -1 := by
          have h0 := hy'
          obtain ⟨bb0, off0, y0, hB0, hy0, hd0⟩ := Ints.at_ HK.out.now.1 hlt
          rw [hy'] at hy0
          injection hy0 with hy0
          injection hB0 with hB0
          injection hB0 with f1 f2 f3
          subst f1; subst f2
          rw [hd] at hd0
          injection hd0 with hd0
          injection hd0 with _ hd0
          omega
        subst hyy
        clear hy' hd' hd
        go_wp2_with fail
        exact ⟨⟨k + 1, by omega, by go_num, Lib.hid (HK3.out.weaken fun W h => h.2)⟩, by simp [intOf]; omega⟩
      · have HBB := Lib.hid hB
        have hy1 : y = f := by rw [← hyl]; unfold leastI; rw [← hn0, hB]; exact hf
        subst hy1
        clear hx hbk hwd hyl hn0 hf hB
        go_wp2_with fail
        refine (rAt_st HK2 (fun _ h => h.1) (by omega) _ (normL_rep b) (by omega) HF.out HBB.out).mono ?_
        rintro e w2 ⟨rfl, HK3⟩
        obtain ⟨bb', off', y', hB', hy', hd'⟩ := Ints.at_ HK3.out.now.2.1 hlt
        injection hB' with hB'
        injection hB' with e1 e2 e3
        subst e1; subst e2
        rw [hy] at hy'
        injection hy' with hy'
        subst hy'
        have hne : (y != y) = false := by simp
        clear hy hd
        go_wp2_with fail
        exact ⟨⟨k + 1, by omega, by go_num, Lib.hid (HK3.out.weaken fun W h => h.2)⟩, by simp [intOf]; omega⟩
    · obtain rfl : k = L.length := by omega
      have hd : decide (L.length < L.length) = false := by simp
      have hl2 : ((L.length : Int) == (L.length : Int)) = true := by simp
      go_wp2_with fail
      refine (Class_st HK (fun _ h => h.2) (by omega) _ x HV.out).mono ?_
      rintro e w2 ⟨rfl, HK2⟩
      go_wp2_with fail
      refine (rClass_st HK2 (fun _ h => h.2) (by omega) _ x HV.out).mono ?_
      rintro e w3 ⟨rfl, HK3⟩
      go_wp2_with fail
      refine (awake05_st HK3).mono ?_
      rintro e w4 ⟨rfl, HK4⟩
      go_wp2_with fail
      go_ret
      exact ⟨rfl, HK4.out.2⟩
  · rw [hbig] at HG
    have HK : Hid (St w w (fun W => True)) := Lib.hid (St.start (fun W hW => trivial))
    clear h hbig
    go_enter Try.func14, Try.ntmps14
    go_wp2_with (go_at_call 38; refine HG.out.mono ?_; rintro e w0 ⟨rfl, rfl⟩)
    refine (awake05_st HK).mono ?_
    rintro e w2 ⟨rfl, HK2⟩
    go_wp2_with fail
    go_ret
    exact ⟨rfl, HK2.out.2⟩
end Go.Proofs.Ytdaagdohhnhbdaa
