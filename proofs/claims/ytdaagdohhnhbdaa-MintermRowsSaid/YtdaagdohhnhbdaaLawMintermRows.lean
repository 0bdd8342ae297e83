/- umlautlaw05.MintermRows: the walk. Of any lists the class of each byte, or that some byte has none, are the document's. Condition: none beyond the row's own. -/
import Derived.Test.YtdaagdohhnhbdaaMinRow
namespace Go.Proofs.Ytdaagdohhnhbdaa
open Go.RowKit
set_option linter.unusedVariables false
set_option linter.unusedSimpArgs false

set_option maxHeartbeats 4000000 in
theorem rClass_any {w : World} {A : Option Addr} {L : List (Item Sp)} (hb : LL A L w) (hn : L.length < 1048576) (c : Nat) (x : Int) {v : Int} (hv : classI (bodies L) x = v) : Calls Try.prog 46 #[.slice A L.length c, .int .i64 x] w (fun e w' => e = .returned (.int .i64 v) ∧ w = w') := by
  have HV := Lib.hid hv
  have HA := Lib.hid hb
  clear hv
  go_enter Try.func46, Try.ntmps46
  go_wp2_with fail
  go_loop [5] (fun i => ∃ k : Nat, k ≤ L.length ∧ i = .int .i64 k ∧ Hid (((bodies L).take k).any (fun l => hasB l x) = false)) (fun i => L.length - (intOf i).toNat)
  case atStart => exact ⟨0, Nat.zero_le _, rfl, rfl⟩
  case round =>
  obtain ⟨k, hk, rfl, hal⟩ := hrel
  by_cases hlt : k < L.length
  · obtain ⟨b, off, a, c1, l, rfl, hx, hc, hwd⟩ := HA.out.at_ hlt
    have hbk : (bodies L)[k]? = some l := by unfold bodies; rw [List.getElem?_map, hx]; rfl
    have HBK := Lib.hid hbk
    have HH := Lib.hid (rHas_any a l.length c1 l x w hwd.sp (by have := hwd.len; omega))
    clear hx hwd hbk
    rcases hh : hasB l x with _ | _
    · rw [hh] at HH
      have HHH := Lib.hid hh
      clear hh
      go_wp2_with (go_at_call 59; refine HH.out.mono ?_; rintro e w' ⟨rfl, rfl⟩)
      go_round
      case rel => exact ⟨k + 1, by omega, by go_num, by unfold Hid; rw [take_snoc? HBK.out, List.any_append, hal.out]; simp [HHH.out]⟩
      case measure => simp [intOf]; omega
    · rw [hh] at HH
      have HHH := Lib.hid hh
      clear hh
      go_wp2_with (go_at_call 59; refine HH.out.mono ?_; rintro e w' ⟨rfl, rfl⟩)
      go_ret
      exact ⟨ret_int (by rw [← HV.out]; exact (findIdx_here HBK.out HHH.out hal.out).symm), rfl⟩
  · have hlt2 : decide (k < L.length) = false := by simpa using hlt
    go_wp2_with fail
    go_ret
    refine ⟨ret_int ?_, rfl⟩
    have e := hal.out
    rw [List.take_of_length_le (by rw [bodies_length]; omega)] at e
    rw [← HV.out, classI_none e]


/-- have the first k bytes a class? -/
def allB (L : List (List Sp)) : Nat → Bool
  | 0 => true
  | k + 1 => allB L k && decide (0 ≤ classI L (k : Int))
theorem allB_iff (L : List (List Sp)) (k : Nat) : allB L k = true ↔ ∀ i : Nat, i < k → 0 ≤ classI L (i : Int) := by
  induction k with
  | zero => simp [allB]
  | succ k ih =>
    simp only [allB, Bool.and_eq_true, ih, decide_eq_true_eq]
    constructor
    · rintro ⟨h1, h2⟩ i hi
      by_cases e : i = k
      · subst e; exact h2
      · exact h1 i (by omega)
    · intro h; exact ⟨fun i hi => h i (by omega), h k (by omega)⟩

set_option maxRecDepth 100000 in
set_option maxHeartbeats 16000000 in
theorem MintermRows_walk (A : Option Addr) (n c : Nat) (L : List Lst3) (w : World) (h : SssIn w A n L) :
    Calls Try.prog 13 #[.slice A n c] w fun e w' => e = .returned (.bool true) ∧ Below w.heap.size w w' := by
  have HG := Lib.hid (great05_any A n c L w h)
  rcases hbig : bigL L with _ | _
  · rw [hbig] at HG
    obtain ⟨rfl, hll⟩ := h.ll hbig
    have h30 := (bigL_no hbig).1
    have HK : Hid (St w w (fun W => LL A L W)) := Lib.hid (St.start hll)
    clear h hll hbig
    go_enter Try.func13, Try.ntmps13
    go_wp2_with (go_at_call 38; refine HG.out.mono ?_; rintro e w0 ⟨rfl, rfl⟩)
    refine (Row_st HK (fun _ h => h) (by omega) _).mono ?_
    rintro e w1 hR
    rcases hR with ⟨hneg, rfl, HK⟩ | ⟨hpos, B, c1, rfl, HK⟩
    · have HNB : Hid (allB (bodies L) 256 = false) := by
        unfold Hid
        rw [← Bool.not_eq_true, allB_iff]
        intro h
        obtain ⟨i, hi, h1⟩ := hneg
        have := h i hi
        omega
      clear hneg
      go_wp2_with fail
      go_loopw [5, 6] (fun av xv wr => ∃ k : Nat, k ≤ 256 ∧ xv = .int .i64 k ∧ av = .bool (allB (bodies L) k) ∧ Hid (St w wr (fun W => LL A L W))) (fun _ xv _ => 256 - (intOf xv).toNat)
      case atStart => exact ⟨0, by omega, rfl, rfl, HK⟩
      case round =>
      obtain ⟨k, hk, rfl, rfl, HK⟩ := hrel
      by_cases hlt : k < 256
      · have hlt' : (k : Int) < 256 := by omega
        obtain ⟨v, hv⟩ : ∃ v, classI (bodies L) (k : Int) = v := ⟨_, rfl⟩
        have HV := Lib.hid hv
        have HNX : Hid (allB (bodies L) (k + 1) = (allB (bodies L) k && decide (0 ≤ v))) := by unfold Hid; rw [← hv]; rfl
        clear hv
        rcases hb : allB (bodies L) k with _ | _
        · rw [hb] at HNX
          go_wp2_with fail
          exact ⟨⟨k + 1, by omega, by go_num, by rw [HNX.out]; rfl, HK⟩, by simp [intOf]; omega⟩
        · rw [hb] at HNX
          go_wp2_with fail
          refine (rClass_st HK (fun _ h => h) (by omega) _ (k : Int) HV.out).mono ?_
          rintro e w2 ⟨rfl, HK2⟩
          have HNX2 : Hid (allB (bodies L) (k + 1) = decide (0 ≤ v)) := by unfold Hid; rw [HNX.out]; simp
          go_wp2_with fail
          exact ⟨⟨k + 1, by omega, by go_num, by rw [HNX2.out], HK2⟩, by simp [intOf]; omega⟩
      · obtain rfl : k = 256 := by omega
        rw [HNB.out]
        go_wp2_with fail
        refine (awake05_st HK).mono ?_
        rintro e w2 ⟨rfl, HK2⟩
        go_wp2_with fail
        go_ret
        exact ⟨rfl, HK2.out.2⟩
    · have HNB : Hid (allB (bodies L) 256 = true) := Lib.hid ((allB_iff _ _).2 hpos)
      have HPOS := Lib.hid hpos
      clear hpos
      go_wp2_with fail
      go_loopw [5, 6] (fun av xv wr => ∃ k : Nat, k ≤ 256 ∧ xv = .int .i64 k ∧ av = .bool (allB (bodies L) k) ∧ Hid (St w wr (fun W => Ints .u8 W B 256 (classes (bodies L) 256) ∧ LL A L W))) (fun _ xv _ => 256 - (intOf xv).toNat)
      case atStart => exact ⟨0, by omega, rfl, rfl, HK⟩
      case round =>
      obtain ⟨k, hk, rfl, rfl, HK⟩ := hrel
      by_cases hlt : k < 256
      · have hlt' : (k : Int) < 256 := by omega
        obtain ⟨v, hv⟩ : ∃ v, classI (bodies L) (k : Int) = v := ⟨_, rfl⟩
        have HV := Lib.hid hv
        have HNX : Hid (allB (bodies L) (k + 1) = (allB (bodies L) k && decide (0 ≤ v))) := by unfold Hid; rw [← hv]; rfl
        clear hv
        rcases hb : allB (bodies L) k with _ | _
        · rw [hb] at HNX
          go_wp2_with fail
          exact ⟨⟨k + 1, by omega, by go_num, by rw [HNX.out]; rfl, HK⟩, by simp [intOf]; omega⟩
        · rw [hb] at HNX
          go_wp2_with fail
          refine (rClass_st HK (fun _ h => h.2) (by omega) _ (k : Int) HV.out).mono ?_
          rintro e w2 ⟨rfl, HK2⟩
          have HNX2 : Hid (allB (bodies L) (k + 1) = decide (0 ≤ v)) := by unfold Hid; rw [HNX.out]; simp
          go_wp2_with fail
          exact ⟨⟨k + 1, by omega, by go_num, by rw [HNX2.out], HK2⟩, by simp [intOf]; omega⟩
      · obtain rfl : k = 256 := by omega
        rw [HNB.out]
        go_wp2_with fail
        go_loopw [7] (fun xv wr => ∃ k : Nat, k ≤ 256 ∧ xv = .int .i64 k ∧ Hid (St w wr (fun W => Ints .u8 W B 256 (classes (bodies L) 256) ∧ LL A L W))) (fun xv _ => 256 - (intOf xv).toNat)
        case atStart => exact ⟨0, by omega, rfl, HK⟩
        case round =>
        obtain ⟨k, hk, rfl, HK⟩ := hrel
        by_cases hlt : k < 256
        · have hlt' : (k : Int) < 256 := by omega
          obtain ⟨bb, off, x, hB, hx, hc⟩ := Ints.at_ HK.out.now.1 hlt
          have hxv : classI (bodies L) (k : Int) = x := by
            unfold classes at hx
            rw [List.getElem?_map, List.getElem?_range hlt] at hx
            simpa using hx
          have hxb : 0 ≤ x ∧ x ≤ 255 := by
            have h1 := HPOS.out k hlt
            have h2 := classI_bd (bodies L) (k : Int)
            rw [bodies_length] at h2
            omega
          obtain ⟨hxb0, hxb1⟩ := hxb
          have hxx : (x != x) = false := by simp
          have HQ := Lib.hid (fun q => rClass_any (c := c) (L := L) (w := wr.drewN q) (St.drewN HK.out q).now.2 (by omega) (k : Int) hxv)
          subst hB
          clear hx hxv
          go_wp2_with (go_quiet ((go_at_call 46; exact (HQ.out _).mono fun e w' ⟨h1, h2⟩ => ⟨h1, _, h2.symm⟩)))
          exact ⟨⟨k + 1, by omega, by go_num, St.hdrewN HK _⟩, by simp [intOf]; omega⟩
        · obtain rfl : k = 256 := by omega
          go_wp2_with fail
          refine (awake05_st HK).mono ?_
          rintro e w2 ⟨rfl, HK2⟩
          go_wp2_with fail
          go_ret
          exact ⟨rfl, HK2.out.2⟩
  · rw [hbig] at HG
    have HK : Hid (St w w (fun W => True)) := Lib.hid (St.start (fun W hW => trivial))
    clear h hbig
    go_enter Try.func13, Try.ntmps13
    go_wp2_with (go_at_call 38; refine HG.out.mono ?_; rintro e w0 ⟨rfl, rfl⟩)
    refine (awake05_st HK).mono ?_
    rintro e w2 ⟨rfl, HK2⟩
    go_wp2_with fail
    go_ret
    exact ⟨rfl, HK2.out.2⟩
end Go.Proofs.Ytdaagdohhnhbdaa
