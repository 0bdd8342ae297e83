/- Contracts of umlautref18.small, num, fits. Condition: the terms at hand are known. -/
import Derived.Test.YticfbbigljgjdaaPack
namespace Go.Proofs.Yticfbbigljgjdaa
open Go.RowKit
set_option linter.unusedVariables false
set_option linter.unusedSimpArgs false
theorem small18_any (x : Int) (w : World) : Calls Try.prog 35 #[.int .i64 x] w fun e w' => e = .returned (.bool (pB (I32 x))) ∧ w = w' := by
  by_cases h1 : -2147483648 ≤ x
  · by_cases h2 : x ≤ 2147483647
    · rw [pB_true (p := I32 x) ⟨h1, h2⟩]
      go_enter Try.func35, Try.ntmps35
      go_wp2_with fail
      go_ret
      exact ⟨rfl, rfl⟩
    · rw [pB_false (p := I32 x) (fun h => h2 h.2)]
      go_enter Try.func35, Try.ntmps35
      go_wp2_with fail
      go_ret
      exact ⟨rfl, rfl⟩
  · rw [pB_false (p := I32 x) (fun h => h1 h.1)]
    go_enter Try.func35, Try.ntmps35
    go_wp2_with fail
    go_ret
    exact ⟨rfl, rfl⟩
theorem rnum_any (x : Int) (w : World) (hx : I64 x) : Calls Try.prog 23 #[.int .i64 x] w fun e w' => e = .returned (.slice (some ⟨w.heap.size, 0, none⟩) 4 4) ∧
    w.alloc (.cells #[.int .u8 (x / 16777216 % 256), .int .u8 (x / 65536 % 256), .int .u8 (x / 256 % 256), .int .u8 (x % 256)] 5) = w' := by
  obtain ⟨u, hu⟩ : ∃ u : Int, x % 4294967296 = u := ⟨_, rfl⟩
  obtain ⟨hx0, hx1⟩ := hx
  have hu0 : 0 ≤ u := by omega
  have hu1 : u < 4294967296 := by omega
  have e1 : x / 16777216 % 256 = u / 16777216 := by omega
  have e2 : x / 65536 % 256 = u / 65536 % 256 := by omega
  have e3 : x / 256 % 256 = u / 256 % 256 := by omega
  have e4 : x % 256 = u % 256 := by omega
  rw [e1, e2, e3, e4]
  clear e1 e2 e3 e4
  go_enter Try.func23, Try.ntmps23
  go_wp2_with fail
  go_ret
  exact ⟨rfl, rfl⟩
def PFits (p : PartL) : Prop := I32 p.1 ∧ I32 p.2.1 ∧ I32 p.2.2.1 ∧ I32 p.2.2.2
def T5Fits (t : TermL) : Prop := I32 t.base ∧ I32 t.drop ∧ I32 t.take ∧ I32 t.up ∧ I32 t.sum
def FitsM (t : TermL) : Prop := T5Fits t ∧ ∀ p ∈ t.parts, PFits p
def FitsL (l : List TermL) : Prop := ∀ t ∈ l, FitsM t
section
variable {w0 w : World} {F : World → Prop}
set_option maxRecDepth 100000 in
set_option maxHeartbeats 32000000 in
theorem rfits_st (hK : Hid (St w0 w F)) (o : OutI) (hp : ∀ W, F W → OutW o W) (v : Bool) (hv : Hid (pB (FitsL o.L) = v)) :
    Calls Try.prog 24 #[.slice o.a o.l.length o.c] w (RetV w0 (.bool v) F) := by
  have hln := (hp _ hK.out.now).ln
  have HP := Lib.hid hp
  clear hp
  obtain ⟨oa, oc, ol⟩ := o
  simp only at *
  go_enter Try.func24, Try.ntmps24
  go_wp2_with fail
  go_loopw [3] (fun i wr => ∃ k : Nat, k ≤ ol.length ∧ i = .int .i64 k ∧ Hid (∀ t ∈ (ol.map TermI.L).take k, FitsM t) ∧ Hid (St w0 wr F)) (fun i _ => ol.length - (intOf i).toNat)
  case atStart => exact ⟨0, Nat.zero_le _, rfl, Lib.hid (fun i hi => by simp at hi), hK⟩
  case round =>
  obtain ⟨k, hk, rfl, HR, HK⟩ := hrel
  by_cases hlt : k < ol.length
  · obtain ⟨pb, off, i, hA, hx, hw, hd0, hd1, hd2, hd3, hd4, hd5⟩ := TermsAt.at_ (HP.out _ HK.out.now) hlt
    subst hA
    have hxl : (ol.map TermI.L)[k]? = some i.L := by rw [List.getElem?_map, hx]; rfl
    have HX := Lib.hid hxl
    have HNO : Hid (¬ FitsM i.L → v = false) := Lib.hid fun H => pB_f hv (fun H2 => H (H2 _ (List.mem_of_getElem? HX.out)))
    have hpl := hw.2.ln
    have HKi := Lib.hid (HK.out.add (Below.refl _ _) (G := PartsAt i.pa i.ps) (fun W hW => hw.2.below hW))
    have HKb := St.box HKi [.int .i64 i.b, .int .i64 i.d, .int .i64 i.t, .int .i64 i.u, .int .i64 i.s, .slice i.pa i.ps.length i.pc] 74
    have HRT : Hid (∀ W, Hid (St w0 W (fun W => BoxC wr.heap.size [.int .i64 i.b, .int .i64 i.d, .int .i64 i.t, .int .i64 i.u, .int .i64 i.s, .slice i.pa i.ps.length i.pc] W ∧ PartsAt i.pa i.ps W ∧ F W)) → Hid (St w0 W F)) := Lib.hid fun W h => Lib.hid (h.out.weaken fun _ h => h.2.2)
    clear hx hxl hw
    by_cases f0 : ¬ I32 i.b
    · obtain rfl := HNO.out (fun H => f0 H.1.1)
      have g0 := pB_false f0
      clear f0
      go_wp2_with (go_at_call 35; refine (small18_any _ _).mono ?_; rintro e w' ⟨rfl, rfl⟩)
      go_ret
      exact ⟨rfl, HRT.out _ HKb⟩
    have f0 := Classical.not_not.1 f0
    have g0 := pB_true f0
    have F0 := Lib.hid f0
    clear f0
    by_cases f1 : ¬ I32 i.d
    · obtain rfl := HNO.out (fun H => f1 H.1.2.1)
      have g1 := pB_false f1
      clear f1
      go_wp2_with (go_at_call 35; refine (small18_any _ _).mono ?_; rintro e w' ⟨rfl, rfl⟩)
      go_ret
      exact ⟨rfl, HRT.out _ HKb⟩
    have f1 := Classical.not_not.1 f1
    have g1 := pB_true f1
    have F1 := Lib.hid f1
    clear f1
    by_cases f2 : ¬ I32 i.t
    · obtain rfl := HNO.out (fun H => f2 H.1.2.2.1)
      have g2 := pB_false f2
      clear f2
      go_wp2_with (go_at_call 35; refine (small18_any _ _).mono ?_; rintro e w' ⟨rfl, rfl⟩)
      go_ret
      exact ⟨rfl, HRT.out _ HKb⟩
    have f2 := Classical.not_not.1 f2
    have g2 := pB_true f2
    have F2 := Lib.hid f2
    clear f2
    by_cases f3 : ¬ I32 i.u
    · obtain rfl := HNO.out (fun H => f3 H.1.2.2.2.1)
      have g3 := pB_false f3
      clear f3
      go_wp2_with (go_at_call 35; refine (small18_any _ _).mono ?_; rintro e w' ⟨rfl, rfl⟩)
      go_ret
      exact ⟨rfl, HRT.out _ HKb⟩
    have f3 := Classical.not_not.1 f3
    have g3 := pB_true f3
    have F3 := Lib.hid f3
    clear f3
    by_cases f4 : ¬ I32 i.s
    · obtain rfl := HNO.out (fun H => f4 H.1.2.2.2.2)
      have g4 := pB_false f4
      clear f4
      go_wp2_with (go_at_call 35; refine (small18_any _ _).mono ?_; rintro e w' ⟨rfl, rfl⟩)
      go_ret
      exact ⟨rfl, HRT.out _ HKb⟩
    have f4 := Classical.not_not.1 f4
    have g4 := pB_true f4
    have F4 := Lib.hid f4
    clear f4
    go_wp2_with (go_at_call 35; refine (small18_any _ _).mono ?_; rintro e w' ⟨rfl, rfl⟩)
    clear g0 g1 g2 g3 g4 hd0 hd1 hd2 hd3 hd4 hd5
    obtain ⟨bb, hbb⟩ : ∃ bb, wr.heap.size = bb := ⟨_, rfl⟩
    rw [hbb] at HKb HRT ⊢
    clear hbb
    go_loopw [5] (fun j wq => ∃ m : Nat, m ≤ i.ps.length ∧ j = .int .i64 m ∧ Hid (∀ p ∈ i.ps.take m, PFits p) ∧ Hid (St w0 wq (fun W => BoxC bb [.int .i64 i.b, .int .i64 i.d, .int .i64 i.t, .int .i64 i.u, .int .i64 i.s, .slice i.pa i.ps.length i.pc] W ∧ PartsAt i.pa i.ps W ∧ F W))) (fun j _ => i.ps.length - (intOf j).toNat)
    case atStart => exact ⟨0, Nat.zero_le _, rfl, Lib.hid (fun i hi => by simp at hi), HKb⟩
    case round =>
    clear HKb HKi HK
    obtain ⟨m, hm, rfl, HR2, HK⟩ := hrel
    have hc5 := HK.out.now.1 5 _ rfl
    by_cases hlt2 : m < i.ps.length
    · obtain ⟨qb, qo, p, hA2, hx2, hw2, e0, e1, e2, e3⟩ := HK.out.now.2.1.at_ hlt2
      obtain ⟨x1, x2, x3, x4⟩ := p
      simp only at e0 e1 e2 e3
      have HX2 := Lib.hid hx2
      have HN2 : Hid (¬ PFits (x1, x2, x3, x4) → v = false) := Lib.hid fun H => HNO.out (fun H2 => H (H2.2 _ (List.mem_of_getElem? HX2.out)))
      rw [hA2] at hc5
      have HKp := St.box HK [.int .i64 x1, .int .i64 x2, .int .i64 x3, .int .i64 x4] 76
      clear hx2 hw2 hA2
      by_cases f0 : ¬ I32 x1
      · obtain rfl := HN2.out (fun H => f0 H.1)
        have g0 := pB_false f0
        clear f0
        go_wp2_with (go_at_call 35; refine (small18_any _ _).mono ?_; rintro e w' ⟨rfl, rfl⟩)
        go_ret
        exact ⟨rfl, HRT.out _ (Lib.hid (HKp.out.weaken fun _ h => h.2))⟩
      have f0 := Classical.not_not.1 f0
      have g0 := pB_true f0
      have G0 := Lib.hid f0
      clear f0
      by_cases f1 : ¬ I32 x2
      · obtain rfl := HN2.out (fun H => f1 H.2.1)
        have g1 := pB_false f1
        clear f1
        go_wp2_with (go_at_call 35; refine (small18_any _ _).mono ?_; rintro e w' ⟨rfl, rfl⟩)
        go_ret
        exact ⟨rfl, HRT.out _ (Lib.hid (HKp.out.weaken fun _ h => h.2))⟩
      have f1 := Classical.not_not.1 f1
      have g1 := pB_true f1
      have G1 := Lib.hid f1
      clear f1
      by_cases f2 : ¬ I32 x3
      · obtain rfl := HN2.out (fun H => f2 H.2.2.1)
        have g2 := pB_false f2
        clear f2
        go_wp2_with (go_at_call 35; refine (small18_any _ _).mono ?_; rintro e w' ⟨rfl, rfl⟩)
        go_ret
        exact ⟨rfl, HRT.out _ (Lib.hid (HKp.out.weaken fun _ h => h.2))⟩
      have f2 := Classical.not_not.1 f2
      have g2 := pB_true f2
      have G2 := Lib.hid f2
      clear f2
      by_cases f3 : ¬ I32 x4
      · obtain rfl := HN2.out (fun H => f3 H.2.2.2)
        have g3 := pB_false f3
        clear f3
        go_wp2_with (go_at_call 35; refine (small18_any _ _).mono ?_; rintro e w' ⟨rfl, rfl⟩)
        go_ret
        exact ⟨rfl, HRT.out _ (Lib.hid (HKp.out.weaken fun _ h => h.2))⟩
      have f3 := Classical.not_not.1 f3
      have g3 := pB_true f3
      have G3 := Lib.hid f3
      clear f3
      have HN3 : Hid (∀ p ∈ i.ps.take (m + 1), PFits p) := Lib.hid fun p hp => by
        rw [take_snoc? HX2.out] at hp
        rcases List.mem_append.1 hp with hp | hp
        · exact HR2.out p hp
        · simp at hp; subst hp; exact ⟨G0.out, G1.out, G2.out, G3.out⟩
      go_wp2_with (go_at_call 35; refine (small18_any _ _).mono ?_; rintro e w' ⟨rfl, rfl⟩)
      exact ⟨⟨m + 1, by omega, by go_num, HN3, Lib.hid (HKp.out.weaken fun _ h => h.2)⟩, by simp [intOf]; omega⟩
    · obtain rfl : m = i.ps.length := by omega
      have hd : decide (i.ps.length < i.ps.length) = false := by simp
      have HN3 : Hid (∀ t ∈ (ol.map TermI.L).take (k + 1), FitsM t) := Lib.hid fun t ht => by
        rw [take_snoc? HX.out] at ht
        rcases List.mem_append.1 ht with ht | ht
        · exact HR.out t ht
        · simp at ht; subst ht
          exact ⟨⟨F0.out, F1.out, F2.out, F3.out, F4.out⟩, by have := HR2.out; rwa [List.take_length] at this⟩
      go_wp2_with fail
      exact ⟨⟨k + 1, by omega, by go_num, HN3, HRT.out _ HK⟩, by simp [intOf]; omega⟩
  · obtain rfl : k = ol.length := by omega
    have hd : decide (ol.length < ol.length) = false := by simp
    obtain rfl := pB_t hv (show FitsL (OutI.L ⟨oa, oc, ol⟩) from fun t ht => by
      have h := HR.out t
      rw [show ol.length = (ol.map TermI.L).length from (List.length_map _).symm, List.take_length] at h
      exact h ht)
    go_wp2_with fail
    go_ret
    exact ⟨rfl, HK⟩
end
end Go.Proofs.Yticfbbigljgjdaa
