/- Contracts of the small functions of layer 5: great, Class, the document's Class and Same. Condition: the lists at hand are known. -/
import Derived.Test.YtdaagdohhnhbdaaRefine
import Derived.Test.YtdaagdohhnhbdaaSssArg
namespace Go.Proofs.Ytdaagdohhnhbdaa
open Go.RowKit
set_option linter.unusedVariables false
set_option linter.unusedSimpArgs false

def bigL (L : List (Item Sp)) : Bool := decide (30 < L.length) || L.any fun i => decide (30 < i.2.2.length)
theorem bigL_no {L : List (Item Sp)} (h : bigL L = false) : L.length ≤ 30 ∧ ∀ i ∈ L, i.2.2.length ≤ 30 := by
  simpa [bigL] using h
theorem SssIn.ll {W : World} {A : Option Addr} {n : Nat} {L : List (Item Sp)} (h : SssIn W A n L) (hb : bigL L = false) : n = L.length ∧ ∀ w', Below W.heap.size W w' → LL A L w' := by
  have hl := h.1.len
  obtain ⟨h1, h2⟩ := bigL_no hb
  refine ⟨hl.symm, fun w' hw => ?_⟩
  subst hl
  refine ⟨Sl.below (B := 0) h.1.sl hw, fun i hi => ?_⟩
  obtain ⟨a1, a2, a3⟩ := h.1.it i hi
  have := h2 i hi
  exact ⟨a1.below hw, a2, by omega⟩
set_option maxHeartbeats 4000000 in
theorem great05_any (A : Option Addr) (n c : Nat) (L : List (Item Sp)) (w : World) (h : SssIn w A n L) : Calls Try.prog 38 #[.slice A n c] w fun e w' => e = .returned (.bool (bigL L)) ∧ w = w' := by
  have HL := Lib.hid h.1.len
  have HA := Lib.hid h.1
  have hn := h.2
  clear h
  by_cases hbig : 30 < n
  · have hbig' : (30 : Int) < n := by omega
    go_enter Try.func38, Try.ntmps38
    go_wp2_with fail
    go_ret
    exact ⟨ret_bool (by unfold bigL; rw [HL.out]; simp [hbig]), rfl⟩
  have hbig' : ¬ (30 : Int) < n := by omega
  go_enter Try.func38, Try.ntmps38
  go_wp2_with fail
  go_loop [3] (fun i => ∃ k : Nat, k ≤ n ∧ i = .int .i64 k ∧ Hid ((L.take k).any (fun i => decide (30 < i.2.2.length)) = false)) (fun i => n - (intOf i).toNat)
  case atStart => exact ⟨0, Nat.zero_le _, rfl, rfl⟩
  case round =>
  obtain ⟨k, hk, rfl, hal⟩ := hrel
  by_cases hlt : k < n
  · obtain ⟨b, off, a, c1, l, rfl, hx, hc, hwd⟩ := HA.out.at_ hlt
    have hll := hwd.2.2
    have HX := Lib.hid hx
    clear hx hwd
    by_cases hl : 30 < l.length
    · have hl' : (30 : Int) < l.length := by omega
      go_wp2_with fail
      go_ret
      refine ⟨ret_bool ?_, rfl⟩
      symm
      unfold bigL
      rw [Bool.or_eq_true, List.any_eq_true]
      exact .inr ⟨_, List.mem_of_getElem? HX.out, by simpa using hl⟩
    · have hl' : ¬ (30 : Int) < l.length := by omega
      go_wp2_with fail
      go_round
      case rel => exact ⟨k + 1, by omega, by go_num, by unfold Hid; rw [take_snoc? HX.out, List.any_append, hal.out]; simpa using hl⟩
      case measure => simp [intOf]; omega
  · have hlt2 : decide (k < n) = false := by simpa using hlt
    go_wp2_with fail
    go_ret
    refine ⟨ret_bool ?_, rfl⟩
    symm
    have e := hal.out
    rw [List.take_of_length_le (by have := HL.out; omega)] at e
    unfold bigL
    rw [e, HL.out]; simpa using hbig

/-- the place of the first list that has a number -/
def classI (L : List (List Sp)) (x : Int) : Int := if L.any (fun l => hasB l x) then (L.findIdx (fun l => hasB l x) : Int) else -1
theorem findIdx_here {L : List (List Sp)} {x : Int} {k : Nat} {l : List Sp} (hk : L[k]? = some l) (h : hasB l x = true) (hno : (L.take k).any (fun l => hasB l x) = false) : classI L x = k := by
  have hm := List.mem_of_getElem? hk
  have h1 : L.any (fun l => hasB l x) = true := List.any_eq_true.2 ⟨l, hm, h⟩
  unfold classI
  rw [if_pos h1]
  congr 1
  obtain ⟨hlt, rfl⟩ := List.getElem?_eq_some_iff.1 hk
  rw [List.findIdx_eq hlt]
  refine ⟨h, fun j hj => ?_⟩
  rw [List.any_eq_false] at hno
  have := hno (L[j]'(by omega)) (List.mem_iff_getElem?.2 ⟨j, by rw [List.getElem?_take_of_lt hj]; exact List.getElem?_eq_getElem _⟩)
  simpa using this
theorem classI_none {L : List (List Sp)} {x : Int} (h : L.any (fun l => hasB l x) = false) : classI L x = -1 := by
  unfold classI; rw [h]; rfl
theorem any_bodies (L : List (Item Sp)) (x : Int) (k : Nat) : ((bodies L).take k).any (fun l => hasB l x) = (L.take k).any (fun i => hasB i.2.2 x) := by
  unfold bodies
  rw [← List.map_take, List.any_map]; rfl

section
variable {w0 w : World} {F : World → Prop} {A B : Option Addr} {L M : List (Item Sp)}
set_option maxHeartbeats 4000000 in
theorem rClass_st (hK : Hid (St w0 w F)) (hb : ∀ W, F W → LL A L W) (hn : L.length < 1048576) (c : Nat) (x : Int) {v : Int} (hv : classI (bodies L) x = v) : Calls Try.prog 46 #[.slice A L.length c, .int .i64 x] w (RetV w0 (.int .i64 v) F) := by
  have HV := Lib.hid hv
  have HA := Lib.hid (hb _ hK.out.now)
  clear hv
  go_enter Try.func46, Try.ntmps46
  go_wp2_with fail
  go_loop [5] (fun i => ∃ k : Nat, k ≤ L.length ∧ i = .int .i64 k ∧ Hid (((bodies L).take k).any (fun l => hasB l x) = false)) (fun i => L.length - (intOf i).toNat)
  case atStart => exact ⟨0, Nat.zero_le _, rfl, rfl⟩
  case round =>
  obtain ⟨k, hk, rfl, hal⟩ := hrel
  by_cases hlt : k < L.length
  · obtain ⟨b, off, a, c1, l, rfl, hx, hc, hwd⟩ := HA.out.at_ hlt
    have hbk : (bodies L)[k]? = some l := by unfold bodies; rw [List.getElem?_map, hx]; rfl
    have HBK := Lib.hid hbk
    have HH := Lib.hid (rHas_any a l.length c1 l x w hwd.sp (by have := hwd.len; omega))
    clear hx hwd hbk
    rcases hh : hasB l x with _ | _
    · rw [hh] at HH
      have HHH := Lib.hid hh
      clear hh
      go_wp2_with (go_at_call 59; refine HH.out.mono ?_; rintro e w' ⟨rfl, rfl⟩)
      go_round
      case rel => exact ⟨k + 1, by omega, by go_num, by unfold Hid; rw [take_snoc? HBK.out, List.any_append, hal.out]; simp [HHH.out]⟩
      case measure => simp [intOf]; omega
    · rw [hh] at HH
      have HHH := Lib.hid hh
      clear hh
      go_wp2_with (go_at_call 59; refine HH.out.mono ?_; rintro e w' ⟨rfl, rfl⟩)
      go_ret
      exact ⟨ret_int (by rw [← HV.out]; exact (findIdx_here HBK.out HHH.out hal.out).symm), hK⟩
  · have hlt2 : decide (k < L.length) = false := by simpa using hlt
    go_wp2_with fail
    go_ret
    refine ⟨ret_int ?_, hK⟩
    have e := hal.out
    rw [List.take_of_length_le (by rw [bodies_length]; omega)] at e
    rw [← HV.out, classI_none e]

theorem eg84 (p : Value) : ∀ args w, (callFunc 84 args).run Try.prog w = .ok (.enter 84 args) w := enters_of Try.func84 (by kernel_rfl) rfl
set_option maxRecDepth 100000 in
set_option maxHeartbeats 8000000 in
theorem Class_st (hK : Hid (St w0 w F)) (hb : ∀ W, F W → LL A L W) (hn : L.length < 1048576) (c : Nat) (x : Int) {v : Int} (hv : classI (bodies L) x = v) : Calls Try.prog 49 #[.slice A L.length c, .int .i64 x] w (RetV w0 (.int .i64 v) F) := by
  have HV := Lib.hid hv
  clear hv
  have HK1 := Lib.hid (hK.out.add ((Below.refl _ _).alloc (Nat.le_refl _) (.cells #[.int .i64 x] 3)) (G := fun W => W.cell? ⟨w.heap.size, 0, none⟩ = some (.int .i64 x)) (fun W hW => by
    have hb := heap_alloc_new w (.cells #[.int .i64 x] 3)
    rw [hW.cell (p := ⟨w.heap.size, 0, none⟩) (by simp)]
    simp only [World.cell?, hb]; rfl))
  have HC : Hid (∀ (W : World) (a : Option Addr) (l : List Sp) (c1 : Nat) (b : Bool), Hid (St w0 W (fun W => W.cell? ⟨w.heap.size, 0, none⟩ = some (.int .i64 x) ∧ F W)) → Lst a l W → hasB l x = b → Calls Try.prog 84 #[.slice a l.length c1, .pointer (some ⟨w.heap.size, 0, none⟩)] W (RetV w0 (.bool b) (fun W => W.cell? ⟨w.heap.size, 0, none⟩ = some (.int .i64 x) ∧ F W))) := by
    refine Lib.hid fun W a l c1 b hKW hl hbb => ?_
    have HBB := Lib.hid hbb
    have hx := hKW.out.now.1
    have HL := Lib.hid (hKW.out.add (Below.refl _ _) (G := Lst a l) (fun W' hW' => hl.below hW'))
    clear hbb hl
    go_enter Try.func84, Try.ntmps84
    go_wp2_with fail
    refine (Has_st HL (fun _ h => h.1) _ x HBB.out).mono ?_
    rintro e w1 ⟨rfl, HK⟩
    go_wp2_with fail
    go_ret
    exact ⟨rfl, Lib.hid (HK.out.weaken fun W h => h.2)⟩
  have HI : Hid (Calls Try.prog 83 #[.slice A L.length c, .func (.func 84) #[] #[.pointer (some ⟨w.heap.size, 0, none⟩)]] (w.alloc (.cells #[.int .i64 x] 3)) (RetV w0 (.int .i64 v) F)) := by
    have eg := eg84 (.bool true)
    go_enter Try.func83, Try.ntmps83
    go_wp2_with fail
    go_loopw [8] (fun i wr => ∃ k : Nat, k ≤ L.length ∧ i = .int .i64 k ∧ Hid (((bodies L).take k).any (fun l => hasB l x) = false) ∧ Hid (St w0 wr (fun W => W.cell? ⟨w.heap.size, 0, none⟩ = some (.int .i64 x) ∧ F W))) (fun i _ => L.length - (intOf i).toNat)
    case atStart => exact ⟨0, Nat.zero_le _, rfl, rfl, HK1⟩
    case round =>
    obtain ⟨k, hk, rfl, hal, HK⟩ := hrel
    by_cases hlt : k < L.length
    · obtain ⟨b, off, a, c1, l, hA, hx, hc, hwd⟩ := (hb _ HK.out.now.2).at_ hlt
      have hbk : (bodies L)[k]? = some l := by unfold bodies; rw [List.getElem?_map, hx]; rfl
      have HBK := Lib.hid hbk
      have HWD := Lib.hid hwd
      subst hA
      clear hx hwd hbk
      rcases hh : hasB l x with _ | _
      · have HHH := Lib.hid hh
        clear hh
        go_wp2_with fail
        refine (HC.out wr a l c1 false HK HWD.out HHH.out).mono ?_
        rintro e w2 ⟨rfl, HK2⟩
        go_wp2_with fail
        exact ⟨⟨k + 1, by omega, by go_num, by unfold Hid; rw [take_snoc? HBK.out, List.any_append, hal.out]; simp [HHH.out], HK2⟩, by simp [intOf]; omega⟩
      · have HHH := Lib.hid hh
        clear hh
        go_wp2_with fail
        refine (HC.out wr a l c1 true HK HWD.out HHH.out).mono ?_
        rintro e w2 ⟨rfl, HK2⟩
        go_wp2_with fail
        go_ret
        exact ⟨ret_int (by rw [← HV.out]; exact (findIdx_here HBK.out HHH.out hal.out).symm), Lib.hid (HK2.out.weaken fun W h => h.2)⟩
    · have hlt2 : decide (k < L.length) = false := by simpa using hlt
      go_wp2_with fail
      go_ret
      refine ⟨ret_int ?_, Lib.hid (HK.out.weaken fun W h => h.2)⟩
      have e := hal.out
      rw [List.take_of_length_le (by rw [bodies_length]; omega)] at e
      rw [← HV.out, classI_none e]
  go_enter Try.func49, Try.ntmps49
  go_wp2_with fail
  refine HI.out.mono ?_
  rintro e w1 ⟨rfl, HK⟩
  go_wp2_with fail
  go_ret
  exact ⟨rfl, HK⟩
set_option maxRecDepth 100000 in
set_option maxHeartbeats 8000000 in
theorem LSame_st (hK : Hid (St w0 w F)) (hb : ∀ W, F W → LL A L W) (hm : ∀ W, F W → LL B M W) (hn : L.length < 1048576) (hn2 : M.length < 1048576) (c d : Nat) {v : Bool} (hv : decide (bodies L = bodies M) = v) : Calls Try.prog 42 #[.slice A L.length c, .slice B M.length d] w (RetV w0 (.bool v) F) := by
  have HV := Lib.hid hv
  clear hv
  by_cases hl : L.length = M.length
  · have hl1 : ((L.length : Int) != (M.length : Int)) = false := by simp [hl]
    go_enter Try.func42, Try.ntmps42
    go_wp2_with fail
    go_loopw [5] (fun i wr => ∃ k : Nat, k ≤ L.length ∧ i = .int .i64 k ∧ Hid ((bodies L).take k = (bodies M).take k) ∧ Hid (St w0 wr F)) (fun i _ => L.length - (intOf i).toNat)
    case atStart => exact ⟨0, Nat.zero_le _, rfl, rfl, hK⟩
    case round =>
    obtain ⟨k, hk, rfl, hal, HK⟩ := hrel
    by_cases hlt : k < L.length
    · obtain ⟨b, off, a, c1, l, hA, hx, hc, hwd⟩ := (hb _ HK.out.now).at_ hlt
      obtain ⟨b2, off2, a2, c2, m, hB, hy, hd, hwe⟩ := (hm _ HK.out.now).at_ (show k < M.length by omega)
      have hbk : (bodies L)[k]? = some l := by unfold bodies; rw [List.getElem?_map, hx]; rfl
      have hbm : (bodies M)[k]? = some m := by unfold bodies; rw [List.getElem?_map, hy]; rfl
      have HBK := Lib.hid hbk
      have HBM := Lib.hid hbm
      have HQ := Lib.hid (fun q => (Same_any a a2 l.length c1 m.length c2 l m (wr.drewN q) (hwd.sp.drewN q) (hwe.sp.drewN q) (by have := hwd.len; omega) (by have := hwe.len; omega)))
      have hkm : k < M.length := by omega
      subst hA; subst hB
      clear hx hwd hbk hy hwe hbm
      by_cases he : l = m
      · have hdec : decide (l = m) = true := by simpa using he
        rw [hdec] at HQ
        have HE := Lib.hid he
        clear he hdec
        go_wp2_with (go_quiet ((go_at_call 23; exact Drawn.at_ HQ.out _)))
        exact ⟨⟨k + 1, by omega, by go_num, by unfold Hid; rw [take_snoc? HBK.out, take_snoc? HBM.out, hal.out, HE.out], St.hdrewN HK _⟩, by simp [intOf]; omega⟩
      · have hdec : decide (l = m) = false := by simpa using he
        rw [hdec] at HQ
        have HE := Lib.hid he
        clear he hdec
        go_wp2_with (go_quiet ((go_at_call 23; exact Drawn.at_ HQ.out _)))
        go_ret
        refine ⟨ret_bool ?_, St.hdrewN HK _⟩
        rw [← HV.out]; symm
        rw [decide_eq_false_iff_not]
        intro e
        have h1 := HBK.out
        rw [e, HBM.out] at h1
        injection h1 with h1
        exact HE.out h1.symm
    · obtain rfl : k = L.length := by omega
      have hlt2 : decide (L.length < L.length) = false := by simp
      go_wp2_with fail
      go_ret
      refine ⟨ret_bool ?_, HK⟩
      rw [← HV.out]; symm
      rw [decide_eq_true_eq]
      have e := hal.out
      rwa [List.take_of_length_le (by rw [bodies_length]; omega), List.take_of_length_le (by rw [bodies_length]; omega)] at e
  · have hl1 : ((L.length : Int) != (M.length : Int)) = true := by simp; omega
    have HE := Lib.hid hl
    clear hl
    go_enter Try.func42, Try.ntmps42
    go_wp2_with fail
    go_ret
    refine ⟨ret_bool ?_, hK⟩
    rw [← HV.out]; symm
    rw [decide_eq_false_iff_not]
    intro e
    have := congrArg List.length e
    rw [bodies_length, bodies_length] at this
    exact HE.out this
end
end Go.Proofs.Ytdaagdohhnhbdaa
