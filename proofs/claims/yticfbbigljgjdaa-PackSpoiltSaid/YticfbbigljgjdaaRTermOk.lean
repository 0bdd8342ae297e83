/- Contracts of umlautref04.small, Outer, Numbers, Right of bytes. Condition: the parts at hand are known. -/
import Derived.Test.YticfbbigljgjdaaTermOk
namespace Go.Proofs.Yticfbbigljgjdaa
open Go.RowKit
set_option linter.unusedVariables false
set_option linter.unusedSimpArgs false

theorem rsmall_any (x : Int) (w : World) : Calls Try.prog 54 #[.int .i64 x] w fun e w' => e = .returned (.bool (pB (SmallN x))) ∧ w = w' := by
  by_cases h1 : -1114111 ≤ x
  · by_cases h2 : x ≤ 1114111
    · rw [pB_true (p := SmallN x) ⟨h1, h2⟩]
      go_enter Try.func54, Try.ntmps54
      go_wp2_with fail
      go_ret
      exact ⟨rfl, rfl⟩
    · rw [pB_false (p := SmallN x) (fun h => h2 h.2)]
      go_enter Try.func54, Try.ntmps54
      go_wp2_with fail
      go_ret
      exact ⟨rfl, rfl⟩
  · rw [pB_false (p := SmallN x) (fun h => h1 h.1)]
    go_enter Try.func54, Try.ntmps54
    go_wp2_with fail
    go_ret
    exact ⟨rfl, rfl⟩
theorem router_any (b d t u s : Int) (A : Option Addr) (n c : Nat) (w : World) : Gives Try.prog 56 #[.agg #[.int .i64 b, .int .i64 d, .int .i64 t, .int .i64 u, .int .i64 s, .slice A n c]] w (.agg #[.int .i64 0, .int .i64 d, .int .i64 t, .int .i64 u]) := by
  unfold Gives
  go_enter Try.func56, Try.ntmps56
  go_wp2_with fail
  exact bodyPost_ret (v := .agg #[.int .i64 0, .int .i64 d, .int .i64 t, .int .i64 u]) (by simp [results, Try.results56, go_sem]) rfl ⟨rfl, ((Below.refl _ _).alloc (Nat.le_refl _) _).alloc (by simp) _⟩
section
variable {w0 w : World} {F : World → Prop} {A : Option Addr} {l : List PartL}
theorem rBits_st (hK : Hid (St w0 w F)) (a d t u : Int) (v : Bool) (hv : Hid (pB (BitsOk d t u) = v)) : Calls Try.prog 55 #[.agg #[.int .i64 a, .int .i64 d, .int .i64 t, .int .i64 u]] w (RetV w0 (.bool v) F) := by
  have e : bitsB d t u = pB (BitsOk d t u) := by rw [Bool.eq_iff_iff, pB_iff]; exact bitsB_iff d t u
  rw [← hv.out, ← e]
  exact retV_gives hK (rBits_any a d t u w)
theorem PrRight_st (hK : Hid (St w0 w F)) (a d t u n : Int) (v : Bool) (hv : Hid (pB (PartOk n (a, d, t, u)) = v)) : Calls Try.prog 45 #[.agg #[.int .i64 a, .int .i64 d, .int .i64 t, .int .i64 u], .int .i64 n] w (RetV w0 (.bool v) F) := by
  rw [← hv.out, ← rightB_eq]
  exact retV_gives hK (rRight_any a d t u n w)
set_option maxRecDepth 100000 in
set_option maxHeartbeats 16000000 in
theorem rNumbers_st (hK : Hid (St w0 w F)) (hp : ∀ W, F W → PartsAt A l W) (b d t u s : Int) (c : Nat) (v : Bool) (hv : Hid (pB (NumsOk ⟨b, d, t, u, s, l⟩) = v)) :
    Calls Try.prog 44 #[.agg #[.int .i64 b, .int .i64 d, .int .i64 t, .int .i64 u, .int .i64 s, .slice A l.length c]] w (RetV w0 (.bool v) F) := by
  have HP := Lib.hid hp
  have HK := St.box hK [.int .i64 b, .int .i64 d, .int .i64 t, .int .i64 u, .int .i64 s, .slice A l.length c] 74
  have hln := (hp _ hK.out.now).ln
  clear hp
  by_cases a1 : SmallN b
  case neg =>
    obtain rfl := pB_f hv (fun h => a1 h.1)
    have h1 := pB_false a1
    clear a1
    go_enter Try.func44, Try.ntmps44
    go_wp2_with (go_at_call 54; refine (rsmall_any _ _).mono ?_; rintro e w' ⟨rfl, rfl⟩)
    go_ret
    exact ⟨rfl, Lib.hid (HK.out.weaken fun _ h => h.2)⟩
  have h1 := pB_true a1
  by_cases a2 : SmallN s
  case neg =>
    obtain rfl := pB_f hv (fun h => a2 h.2.1)
    have h2 := pB_false a2
    clear a1 a2
    go_enter Try.func44, Try.ntmps44
    go_wp2_with (go_at_call 54; refine (rsmall_any _ _).mono ?_; rintro e w' ⟨rfl, rfl⟩)
    go_ret
    exact ⟨rfl, Lib.hid (HK.out.weaken fun _ h => h.2)⟩
  have h2 := pB_true a2
  have HA := Lib.hid (And.intro a1 a2)
  clear a1 a2
  go_enter Try.func44, Try.ntmps44
  go_wp2_with (go_at_call 54; refine (rsmall_any _ _).mono ?_; rintro e w' ⟨rfl, rfl⟩)
  refine (retV_gives HK (router_any b d t u s A l.length c _)).mono ?_
  rintro e w1 ⟨rfl, HK1⟩
  by_cases a3 : BitsOk d t u
  case neg =>
    obtain rfl := pB_f hv (fun h => a3 h.2.2.1)
    have H3 := Lib.hid (pB_false a3)
    clear a3 h1 h2
    go_wp2_with fail
    refine (rBits_st HK1 0 d t u false H3).mono ?_
    rintro e w2 ⟨rfl, HK2⟩
    go_wp2_with fail
    go_ret
    exact ⟨rfl, Lib.hid (HK2.out.weaken fun _ h => h.2)⟩
  have H3 := Lib.hid (pB_true a3)
  have HV : Hid (pB (RiseOk l) = v) := by
    rw [← hv.out]
    exact pB_congr ⟨fun h => ⟨HA.out.1, HA.out.2, a3, h⟩, fun h => h.2.2.2⟩
  clear a3 h1 h2
  go_wp2_with fail
  refine (rBits_st HK1 0 d t u true H3).mono ?_
  rintro e w2 ⟨rfl, HK2⟩
  have hc5 := HK2.out.now.1 5 _ rfl
  by_cases h4 : ¬ l.length ≤ 4
  · obtain rfl := pB_f HV (fun h => h4 h.2)
    have h4' : (4 : Int) < l.length := by omega
    clear h4
    go_wp2_with fail
    go_ret
    exact ⟨rfl, Lib.hid (HK2.out.weaken fun _ h => h.2)⟩
  have h4 := Classical.not_not.1 h4
  go_wp2_with fail
  go_loopw [3] (fun i wr => ∃ k : Nat, (k ≤ l.length ∨ k = 1) ∧ 1 ≤ k ∧ i = .int .i64 k ∧ Hid (RiseTo l k) ∧ Hid (St w0 wr (fun W => BoxC w.heap.size [.int .i64 b, .int .i64 d, .int .i64 t, .int .i64 u, .int .i64 s, .slice A l.length c] W ∧ F W))) (fun i _ => l.length - (intOf i).toNat)
  case atStart => exact ⟨1, .inr rfl, Nat.le_refl _, rfl, Lib.hid (RiseTo.one l (by omega)), HK2⟩
  case round =>
  clear hc5
  obtain ⟨k, hk, hk1, rfl, HR, HK⟩ := hrel
  by_cases hlt : k < l.length
  · obtain ⟨j, rfl⟩ : ∃ j, k = j + 1 := ⟨k - 1, by omega⟩
    obtain ⟨pb, off, p, hA, hx, hw, hd0, hd1, hd2, hd3⟩ := (HP.out _ HK.out.now.2).at_ hlt
    obtain ⟨b', off', q, hB, hq, _, he0, he1, he2, he3⟩ := (HP.out _ HK.out.now.2).at_ (j := j) (by omega)
    have hc5 := HK.out.now.1 5 _ rfl
    rw [hA] at hB hc5
    injection hB with hB
    injection hB with hA1 hA2
    subst hA1; subst hA2
    have HX := Lib.hid hx
    have HQ := Lib.hid hq
    have hs : IntKind.i64.wrap (((j + 1 : Nat) : Int) - 1) = (j : Int) := by rw [Int.natCast_add, Int.natCast_one, Int.add_sub_cancel]; exact IntWalk.i64_in _ (by omega)
    have hj0 : (0 : Int) ≤ ((j + 1 : Nat) : Int) := by omega
    have hj1 : ((j + 1 : Nat) : Int) < (l.length : Int) := by omega
    have hj2 : (0 : Int) ≤ (j : Int) := by omega
    have hj3 : (j : Int) < (l.length : Int) := by omega
    clear hx hq hw hd0 hd1 hd2 he0 he1 he2 hk hA
    by_cases hl : p.2.2.2 ≤ q.2.2.2
    · obtain rfl := pB_f HV (fun h => by have := h.1 j q p HQ.out HX.out; omega)
      go_wp2_with (go_quiet (fail))
      go_ret
      exact ⟨rfl, Lib.hid ((St.hdrewN HK _).out.weaken fun _ h => h.2)⟩
    · have HN := Lib.hid (RiseTo.next HR.out HQ.out HX.out (by omega))
      go_wp2_with (go_quiet (fail))
      exact ⟨⟨j + 2, .inl (by omega), by omega, by go_num, HN, St.hdrewN HK _⟩, by simp [intOf]; omega⟩
  · have HA2 : Hid (RiseOk l) := Lib.hid ⟨fun i p q hp hq => by
      have := (List.getElem?_eq_some_iff.1 hq).1
      exact HR.out i p q (by omega) hp hq, h4⟩
    have hc5 := HK.out.now.1 5 _ rfl
    obtain rfl := pB_t HV HA2.out
    have hlt' : ¬ (k : Int) < l.length := by omega
    clear hlt
    go_wp2_with fail
    go_ret
    exact ⟨rfl, Lib.hid (HK.out.weaken fun _ h => h.2)⟩
set_option maxRecDepth 100000 in
set_option maxHeartbeats 16000000 in
theorem rtRight_st (hK : Hid (St w0 w F)) (hp : ∀ W, F W → PartsAt A l W) (b d t u s : Int) (c : Nat) (n : Int) (v : Bool) (hv : Hid (pB (TermOk n ⟨b, d, t, u, s, l⟩) = v)) :
    Calls Try.prog 40 #[.agg #[.int .i64 b, .int .i64 d, .int .i64 t, .int .i64 u, .int .i64 s, .slice A l.length c], .int .i64 1, .int .i64 1, .int .i64 n] w (RetV w0 (.bool v) F) := by
  have hln := (hp _ hK.out.now).ln
  have HP := Lib.hid hp
  have HK := St.box hK [.int .i64 b, .int .i64 d, .int .i64 t, .int .i64 u, .int .i64 s, .slice A l.length c] 74
  clear hp
  go_enter Try.func40, Try.ntmps40
  by_cases a1 : NumsOk ⟨b, d, t, u, s, l⟩
  case neg =>
    obtain rfl := pB_f hv (fun h => a1 h.1)
    have H1 := Lib.hid (pB_false a1)
    clear a1
    go_wp2_with fail
    refine (rNumbers_st HK (fun _ h => HP.out _ h.2) b d t u s c false H1).mono ?_
    rintro e w3 ⟨rfl, HK3⟩
    go_wp2_with fail
    go_ret
    exact ⟨rfl, Lib.hid (HK3.out.weaken fun _ h => h.2)⟩
  have H1 := Lib.hid (pB_true a1)
  have HA := Lib.hid a1
  clear a1
  go_wp2_with fail
  refine (rNumbers_st HK (fun _ h => HP.out _ h.2) b d t u s c true H1).mono ?_
  rintro e w3 ⟨rfl, HK3⟩
  have h4 : l.length ≤ 4 := HA.out.2.2.2.2
  go_wp2_with fail
  go_loopw [9] (fun i wr => ∃ k : Nat, k ≤ l.length ∧ i = .int .i64 k ∧ Hid (∀ p ∈ l.take k, PartOk n p) ∧ Hid (St w0 wr (fun W => BoxC w.heap.size [.int .i64 b, .int .i64 d, .int .i64 t, .int .i64 u, .int .i64 s, .slice A l.length c] W ∧ F W))) (fun i _ => l.length - (intOf i).toNat)
  case atStart => exact ⟨0, Nat.zero_le _, rfl, Lib.hid (fun p hp => by simp at hp), HK3⟩
  case round =>
  obtain ⟨k, hk, rfl, HR, HK⟩ := hrel
  have hc5 := HK.out.now.1 5 _ rfl
  by_cases hlt : k < l.length
  · obtain ⟨pb, off, p, hA, hx, hw, hd0, hd1, hd2, hd3⟩ := (HP.out _ HK.out.now.2).at_ hlt
    obtain ⟨x1, x2, x3, x4⟩ := p
    simp only at hd0 hd1 hd2 hd3
    rw [hA] at hc5
    have HX := Lib.hid hx
    clear hx hw hA
    by_cases a2 : PartOk n (x1, x2, x3, x4)
    · have H2 := Lib.hid (pB_true a2)
      have HN : Hid (∀ p ∈ l.take (k + 1), PartOk n p) := Lib.hid fun q hq => by
        rw [take_snoc? HX.out] at hq
        rcases List.mem_append.1 hq with hq | hq
        · exact HR.out q hq
        · simp at hq; subst hq; exact a2
      clear a2
      go_wp2_with fail
      refine (PrRight_st HK x1 x2 x3 x4 n true H2).mono ?_
      rintro e w5 ⟨rfl, HK⟩
      go_wp2_with fail
      exact ⟨⟨k + 1, by omega, by go_num, HN, HK⟩, by simp [intOf]; omega⟩
    · have H2 := Lib.hid (pB_false a2)
      obtain rfl := pB_f hv (fun h => a2 (h.2 _ (List.mem_of_getElem? HX.out)))
      clear a2
      go_wp2_with fail
      refine (PrRight_st HK x1 x2 x3 x4 n false H2).mono ?_
      rintro e w5 ⟨rfl, HK⟩
      go_wp2_with fail
      go_ret
      exact ⟨rfl, Lib.hid (HK.out.weaken fun _ h => h.2)⟩
  · obtain rfl : k = l.length := by omega
    have hd : decide (l.length < l.length) = false := by simp
    obtain rfl := pB_t hv ⟨HA.out, by have := HR.out; rwa [List.take_length] at this⟩
    go_wp2_with fail
    go_ret
    exact ⟨rfl, Lib.hid (HK.out.weaken fun _ h => h.2)⟩
end
end Go.Proofs.Yticfbbigljgjdaa
