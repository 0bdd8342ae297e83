/- Contracts of term.small, outer, rising, numbers, plain and Right of bytes. Condition: the parts at hand are known. -/
import Derived.Test.YticfbbigljgjdaaTab
import Derived.Test.YticfbbigljgjdaaPart
namespace Go.Proofs.Yticfbbigljgjdaa
open Go.RowKit
set_option linter.unusedVariables false
set_option linter.unusedSimpArgs false

theorem tsmall_any (x : Int) (w : World) : Calls Try.prog 57 #[.int .i64 x] w fun e w' => e = .returned (.bool (pB (SmallN x))) ∧ w = w' := by
  by_cases h1 : -1114111 ≤ x
  · by_cases h2 : x ≤ 1114111
    · rw [pB_true (p := SmallN x) ⟨h1, h2⟩]
      go_enter Try.func57, Try.ntmps57
      go_wp2_with fail
      go_ret
      exact ⟨rfl, rfl⟩
    · rw [pB_false (p := SmallN x) (fun h => h2 h.2)]
      go_enter Try.func57, Try.ntmps57
      go_wp2_with fail
      go_ret
      exact ⟨rfl, rfl⟩
  · rw [pB_false (p := SmallN x) (fun h => h1 h.1)]
    go_enter Try.func57, Try.ntmps57
    go_wp2_with fail
    go_ret
    exact ⟨rfl, rfl⟩
theorem outer_any (b d t u s : Int) (A : Option Addr) (n c : Nat) (w : World) : Gives Try.prog 58 #[.agg #[.int .i64 b, .int .i64 d, .int .i64 t, .int .i64 u, .int .i64 s, .slice A n c]] w (.agg #[.int .i64 0, .int .i64 d, .int .i64 t, .int .i64 u]) := by
  unfold Gives
  go_enter Try.func58, Try.ntmps58
  go_wp2_with fail
  exact bodyPost_ret (v := .agg #[.int .i64 0, .int .i64 d, .int .i64 t, .int .i64 u]) (by simp [results, Try.results58, go_sem]) rfl ⟨rfl, ((Below.refl _ _).alloc (Nat.le_refl _) _).alloc (by simp) _⟩

def RiseTo (l : List PartL) (k : Nat) : Prop := ∀ (i : Nat) p q, i + 1 < k → l[i]? = some p → l[i + 1]? = some q → p.2.2.2 < q.2.2.2
theorem RiseTo.all {l : List PartL} (h : RiseTo l l.length) : Rising l := fun i p q hp hq => h i p q (List.getElem?_eq_some_iff.1 hq).1 hp hq
theorem RiseTo.one (l : List PartL) {k : Nat} (h : k ≤ 1) : RiseTo l k := fun i p q hi => by omega
theorem RiseTo.next {l : List PartL} {j : Nat} {p q : PartL} (h : RiseTo l (j + 1)) (hp : l[j]? = some p) (hq : l[j + 1]? = some q) (hl : p.2.2.2 < q.2.2.2) : RiseTo l (j + 2) := fun i a b hi ha hb => by
  by_cases e : i = j
  · subst e
    rw [hp] at ha; rw [hq] at hb
    injection ha with ha; injection hb with hb
    subst ha; subst hb
    exact hl
  · exact h i a b (by omega) ha hb
section
variable {w0 w : World} {F : World → Prop} {A : Option Addr} {l : List PartL}
set_option maxRecDepth 100000 in
set_option maxHeartbeats 16000000 in
theorem rising_st (hK : Hid (St w0 w F)) (hp : ∀ W, F W → PartsAt A l W) (c : Nat) (v : Bool) (hv : Hid (pB (RiseOk l) = v)) :
    Calls Try.prog 59 #[.slice A l.length c] w (RetV w0 (.bool v) F) := by
  have hln := (hp _ hK.out.now).ln
  have HP := Lib.hid hp
  clear hp
  go_enter Try.func59, Try.ntmps59
  go_wp2_with fail
  go_loopw [7] (fun i wr => ∃ k : Nat, k ≤ l.length ∧ i = .int .i64 k ∧ Hid (RiseTo l k) ∧ Hid (St w0 wr F)) (fun i _ => l.length - (intOf i).toNat)
  case atStart => exact ⟨0, Nat.zero_le _, rfl, Lib.hid (RiseTo.one l (by omega)), hK⟩
  case round =>
  obtain ⟨k, hk, rfl, HR, HK⟩ := hrel
  by_cases hlt : k < l.length
  · obtain ⟨b, off, p, rfl, hx, hw, hc0, hc1, hc2, hc3⟩ := (HP.out _ HK.out.now).at_ hlt
    have hlw := lt_of_cell hc0
    have HK2 := St.hstep HK ((Below.refl _ _).alloc (Nat.le_refl _) (.cells #[.int .i64 p.1, .int .i64 p.2.1, .int .i64 p.2.2.1, .int .i64 p.2.2.2] 76))
    have HX := Lib.hid hx
    clear hx hw
    cases k with
    | zero =>
      have hg : decide ((0 : Int) < 0) = false := by simp
      simp only [Nat.zero_mul, Nat.add_zero] at hc0 hc1 hc2 hc3
      go_wp2_with (go_quiet (fail))
      exact ⟨⟨1, by omega, by go_num, Lib.hid (RiseTo.one l (by omega)), St.hdrewN HK2 _⟩, by first | (simp [intOf]; done) | (simp [intOf]; omega)⟩
    | succ j =>
      obtain ⟨b', off', q, hA, hq, _, hd0, hd1, hd2, hd3⟩ := (HP.out _ HK.out.now).at_ (j := j) (by omega)
      injection hA with hA
      injection hA with hA1 hA2
      subst hA1; subst hA2
      have HQ := Lib.hid hq
      have hg : decide ((0 : Int) < ((j + 1 : Nat) : Int)) = true := decide_eq_true (by omega)
      have hs : IntKind.i64.wrap (((j + 1 : Nat) : Int) - 1) = (j : Int) := by rw [Int.natCast_add, Int.natCast_one, Int.add_sub_cancel]; exact IntWalk.i64_in _ (by omega)
      clear hq hd0 hd1 hd2
      by_cases hl : p.2.2.2 ≤ q.2.2.2
      · obtain rfl := pB_f hv (fun h => by have := h.1 j q p HQ.out HX.out; omega)
        go_wp2_with (go_quiet (fail))
        go_ret
        exact ⟨rfl, St.hdrewN HK2 _⟩
      · go_wp2_with (go_quiet (fail))
        exact ⟨⟨j + 2, by omega, by go_num, Lib.hid (RiseTo.next HR.out HQ.out HX.out (by omega)), St.hdrewN HK2 _⟩, by simp [intOf]; omega⟩
  · obtain rfl : k = l.length := by omega
    have hd : decide (l.length < l.length) = false := by simp
    have HA := Lib.hid HR.out.all
    by_cases h4 : l.length ≤ 4
    · have h4' : (l.length : Int) ≤ 4 := by omega
      obtain rfl := pB_t hv ⟨HA.out, h4⟩
      go_wp2_with fail
      go_ret
      exact ⟨rfl, HK⟩
    · have h4' : ¬ (l.length : Int) ≤ 4 := by omega
      obtain rfl := pB_f hv (fun h => h4 h.2)
      go_wp2_with fail
      go_ret
      exact ⟨rfl, HK⟩

/-- a block of its own in memory holds these cells -/
def BoxC (b : Nat) (cs : List Value) (W : World) : Prop := ∀ (i : Nat) v, cs[i]? = some v → W.cell? ⟨b, i, none⟩ = some v
theorem BoxC.below {b : Nat} {cs : List Value} {W W' : World} (h : BoxC b cs W) (hb : Below W.heap.size W W') : BoxC b cs W' := fun i v hv => (hb.cell (p := ⟨b, i, none⟩) (lt_of_cell (h i v hv))).trans (h i v hv)
theorem St.box (hK : Hid (St w0 w F)) (cs : List Value) (t : TypeId) : Hid (St w0 (w.alloc (.cells cs.toArray t)) (fun W => BoxC w.heap.size cs W ∧ F W)) := by
  refine Lib.hid (hK.out.add ((Below.refl _ _).alloc (Nat.le_refl _) _) fun W hW => ?_)
  have h0 : BoxC w.heap.size cs (w.alloc (.cells cs.toArray t)) := fun i v hv => by
    rw [World.cell?_alloc_new]; simpa using hv
  exact h0.below hW
theorem BoxC.c4 {b : Nat} {v0 v1 v2 v3 : Value} {W : World} (h : BoxC b [v0, v1, v2, v3] W) : W.cell? ⟨b, 0, none⟩ = some v0 ∧ W.cell? ⟨b, 1, none⟩ = some v1 ∧ W.cell? ⟨b, 2, none⟩ = some v2 ∧ W.cell? ⟨b, 3, none⟩ = some v3 :=
  ⟨h 0 _ rfl, h 1 _ rfl, h 2 _ rfl, h 3 _ rfl⟩
theorem BoxC.c3 {b : Nat} {v0 v1 v2 : Value} {W : World} (h : BoxC b [v0, v1, v2] W) : W.cell? ⟨b, 0, none⟩ = some v0 ∧ W.cell? ⟨b, 1, none⟩ = some v1 ∧ W.cell? ⟨b, 2, none⟩ = some v2 :=
  ⟨h 0 _ rfl, h 1 _ rfl, h 2 _ rfl⟩
theorem BoxC.c6 {b : Nat} {v0 v1 v2 v3 v4 v5 : Value} {W : World} (h : BoxC b [v0, v1, v2, v3, v4, v5] W) : W.cell? ⟨b, 0, none⟩ = some v0 ∧ W.cell? ⟨b, 1, none⟩ = some v1 ∧ W.cell? ⟨b, 2, none⟩ = some v2 ∧ W.cell? ⟨b, 3, none⟩ = some v3 ∧ W.cell? ⟨b, 4, none⟩ = some v4 ∧ W.cell? ⟨b, 5, none⟩ = some v5 :=
  ⟨h 0 _ rfl, h 1 _ rfl, h 2 _ rfl, h 3 _ rfl, h 4 _ rfl, h 5 _ rfl⟩

theorem rightB_eq (a d t u n : Int) : rightB a d t u n = pB (PartOk n (a, d, t, u)) := by
  rw [Bool.eq_iff_iff, pB_iff]
  simp [rightB, bitsB_iff, PartOk, BitsOk, and_assoc]
theorem PRight_st (hK : Hid (St w0 w F)) (a d t u n : Int) (v : Bool) (hv : Hid (pB (PartOk n (a, d, t, u)) = v)) : Calls Try.prog 51 #[.agg #[.int .i64 a, .int .i64 d, .int .i64 t, .int .i64 u], .int .i64 n] w (RetV w0 (.bool v) F) := by
  rw [← hv.out, ← rightB_eq]
  exact retV_gives hK (Right_any a d t u n w)

set_option maxRecDepth 100000 in
set_option maxHeartbeats 16000000 in
theorem numbers_st (hK : Hid (St w0 w F)) (hp : ∀ W, F W → PartsAt A l W) (b d t u s : Int) (c : Nat) (v : Bool) (hv : Hid (pB (NumsOk ⟨b, d, t, u, s, l⟩) = v)) :
    Calls Try.prog 50 #[.agg #[.int .i64 b, .int .i64 d, .int .i64 t, .int .i64 u, .int .i64 s, .slice A l.length c]] w (RetV w0 (.bool v) F) := by
  have HP := Lib.hid hp
  have HK := St.box hK [.int .i64 b, .int .i64 d, .int .i64 t, .int .i64 u, .int .i64 s, .slice A l.length c] 74
  clear hp
  by_cases a1 : SmallN b
  case neg =>
    obtain rfl := pB_f hv (fun h => a1 h.1)
    have h1 := pB_false a1
    clear a1
    go_enter Try.func50, Try.ntmps50
    go_wp2_with (go_at_call 57; refine (tsmall_any _ _).mono ?_; rintro e w' ⟨rfl, rfl⟩)
    go_ret
    exact ⟨rfl, Lib.hid (HK.out.weaken fun _ h => h.2)⟩
  have h1 := pB_true a1
  by_cases a2 : SmallN s
  case neg =>
    obtain rfl := pB_f hv (fun h => a2 h.2.1)
    have h2 := pB_false a2
    clear a1 a2
    go_enter Try.func50, Try.ntmps50
    go_wp2_with (go_at_call 57; refine (tsmall_any _ _).mono ?_; rintro e w' ⟨rfl, rfl⟩)
    go_ret
    exact ⟨rfl, Lib.hid (HK.out.weaken fun _ h => h.2)⟩
  have h2 := pB_true a2
  have HA := Lib.hid (And.intro a1 a2)
  clear a1 a2
  go_enter Try.func50, Try.ntmps50
  go_wp2_with (go_at_call 57; refine (tsmall_any _ _).mono ?_; rintro e w' ⟨rfl, rfl⟩)
  refine (retV_gives HK (outer_any b d t u s A l.length c _)).mono ?_
  rintro e w1 ⟨rfl, HK1⟩
  by_cases a3 : BitsOk d t u
  case neg =>
    obtain rfl := pB_f hv (fun h => a3 h.2.2.1)
    have H3 := Lib.hid (pB_false (p := PartOk 1 (0, d, t, u)) (fun h => a3 h.2.2))
    clear a3 h1 h2
    go_wp2_with fail
    refine (PRight_st HK1 0 d t u 1 false H3).mono ?_
    rintro e w2 ⟨rfl, HK2⟩
    go_wp2_with fail
    go_ret
    exact ⟨rfl, Lib.hid (HK2.out.weaken fun _ h => h.2)⟩
  have H3 := Lib.hid (pB_true (p := PartOk 1 (0, d, t, u)) ⟨by simp, by simp, a3⟩)
  have HV : Hid (pB (RiseOk l) = v) := by
    rw [← hv.out]
    exact pB_congr ⟨fun h => ⟨HA.out.1, HA.out.2, a3, h⟩, fun h => h.2.2.2⟩
  clear a3 h1 h2
  go_wp2_with fail
  refine (PRight_st HK1 0 d t u 1 true H3).mono ?_
  rintro e w2 ⟨rfl, HK2⟩
  have hc5 := HK2.out.now.1 5 _ rfl
  go_wp2_with fail
  refine (rising_st HK2 (fun _ h => HP.out _ h.2) c v HV).mono ?_
  rintro e w3 ⟨rfl, HK3⟩
  go_wp2_with fail
  go_ret
  exact ⟨rfl, Lib.hid (HK3.out.weaken fun _ h => h.2)⟩
end
end Go.Proofs.Yticfbbigljgjdaa
