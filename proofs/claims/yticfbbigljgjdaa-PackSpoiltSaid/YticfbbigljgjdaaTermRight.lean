/- Contract of term.Right of bytes. Condition: the term's parts are known. -/
import Derived.Test.YticfbbigljgjdaaTermOk
import Derived.Deep.RegionWith
namespace Go.Proofs.Yticfbbigljgjdaa
open Go.RowKit
set_option linter.unusedVariables false
set_option linter.unusedSimpArgs false

theorem yielded_undef {ops : Array Oper} {tmps : Array Value} {j : Nat} (h : ((ops[j]?).bind (·.dst)).bind (tmps[·]?) = some undef) : yielded ops tmps j = none := by
  unfold yielded; rw [h]; rfl
attribute [local go_sem ↓] yielded_undef

section
variable {w0 w : World} {F : World → Prop} {A : Option Addr} {l : List PartL}
theorem Domain1_any (w : World) : Calls Try.prog 49 #[.int .i64 1] w fun e w' => (∃ A, e = .returned (.slice A 1 1)) ∧ Below w.heap.size w w' := by
  go_enter Try.func49, Try.ntmps49
  go_wp2_with fail
  go_ret
  exact ⟨⟨_, rfl⟩, (Below.refl _ _).alloc (Nat.le_refl _) _⟩
theorem Domain1_st (hK : Hid (St w0 w F)) : Calls Try.prog 49 #[.int .i64 1] w fun e w' => (∃ A, e = .returned (.slice A 1 1)) ∧ Hid (St w0 w' F) :=
  (Domain1_any w).mono fun e w' ⟨h1, h2⟩ => ⟨h1, St.hstep hK h2⟩
def PartsTo (n : Int) (l : List PartL) (k : Nat) : Prop := ∀ p ∈ l.take k, PartOk n p
set_option maxRecDepth 100000 in
set_option maxHeartbeats 16000000 in
theorem tRight_st (hK : Hid (St w0 w F)) (hp : ∀ W, F W → PartsAt A l W) (b d t u s : Int) (c : Nat) (n : Int) (v : Bool) (hv : Hid (pB (TermOk n ⟨b, d, t, u, s, l⟩) = v)) :
    Calls Try.prog 43 #[.agg #[.int .i64 b, .int .i64 d, .int .i64 t, .int .i64 u, .int .i64 s, .slice A l.length c], .int .i64 1, .int .i64 1, .int .i64 n] w (RetV w0 (.bool v) F) := by
  have hln := (hp _ hK.out.now).ln
  have HP := Lib.hid hp
  have HK := St.box hK [.int .i64 b, .int .i64 d, .int .i64 t, .int .i64 u, .int .i64 s, .slice A l.length c] 74
  clear hp
  go_enter Try.func43, Try.ntmps43
  go_wp2_with fail
  refine (Domain1_st HK).mono ?_
  rintro e w1 ⟨⟨A1, rfl⟩, HK1⟩
  go_wp2_with fail
  refine (Domain1_st HK1).mono ?_
  rintro e w2 ⟨⟨A2, rfl⟩, HK2⟩
  obtain ⟨hc0, hc1, hc2, hc3, hc4, hc5⟩ := HK2.out.now.1.c6
  by_cases a1 : NumsOk ⟨b, d, t, u, s, l⟩
  case neg =>
    obtain rfl := pB_f hv (fun h => a1 h.1)
    have H1 := Lib.hid (pB_false a1)
    clear a1
    go_wp2_with fail
    refine (numbers_st HK2 (fun _ h => HP.out _ h.2) b d t u s c false H1).mono ?_
    rintro e w3 ⟨rfl, HK3⟩
    go_wp2_with fail
    go_ret
    exact ⟨rfl, Lib.hid (HK3.out.weaken fun _ h => h.2)⟩
  have H1 := Lib.hid (pB_true a1)
  have HA := Lib.hid a1
  clear a1
  go_wp2_with fail
  refine (numbers_st HK2 (fun _ h => HP.out _ h.2) b d t u s c true H1).mono ?_
  rintro e w3 ⟨rfl, HK3⟩
  clear hc0 hc1 hc2 hc3 hc4 hc5
  have hc5 := HK3.out.now.1 5 _ rfl
  have h4 : l.length ≤ 4 := HA.out.2.2.2.2
  go_wp2_with fail
  go_loopw [29] (fun i wr => ∃ k : Nat, k ≤ l.length ∧ i = .int .i64 k ∧ Hid (PartsTo n l k) ∧ Hid (St w0 wr (fun W => BoxC w.heap.size [.int .i64 b, .int .i64 d, .int .i64 t, .int .i64 u, .int .i64 s, .slice A l.length c] W ∧ F W))) (fun i _ => l.length - (intOf i).toNat)
  case atStart => exact ⟨0, Nat.zero_le _, rfl, Lib.hid (fun p hp => by simp at hp), HK3⟩
  case round =>
  clear hc5
  obtain ⟨k, hk, rfl, HR, HK⟩ := hrel
  by_cases hlt : k < l.length
  · obtain ⟨pb, off, p, rfl, hx, hw, hd0, hd1, hd2, hd3⟩ := (HP.out _ HK.out.now.2).at_ hlt
    have hlw := lt_of_cell hd0
    have HKp := St.box HK [.int .i64 p.1, .int .i64 p.2.1, .int .i64 p.2.2.1, .int .i64 p.2.2.2] 76
    obtain ⟨x1, x2, x3, x4⟩ := p
    simp only at hd0 hd1 hd2 hd3 HKp
    have HX := Lib.hid hx
    clear hx hw
    by_cases a2 : PartOk n (x1, x2, x3, x4)
    · have H2 := Lib.hid (pB_true a2)
      have HN : Hid (PartsTo n l (k + 1)) := Lib.hid fun q hq => by
        rw [take_snoc? HX.out] at hq
        rcases List.mem_append.1 hq with hq | hq
        · exact HR.out q hq
        · simp at hq; subst hq; exact a2
      clear a2
      go_wp2_with fail
      have HK := St.hdrewN HKp 1
      first | (go_region_with (go_at_call 51; refine (PRight_st HK x1 x2 x3 x4 n true H2).mono ?_; rintro e w5 ⟨rfl, HK⟩)) | fail
      all_goals (go_wp2_with fail; exact ⟨⟨k + 1, by omega, by go_num, HN, Lib.hid (HK.out.weaken fun _ h => h.2)⟩, by simp [intOf]; omega⟩)
    · have H2 := Lib.hid (pB_false a2)
      obtain rfl := pB_f hv (fun h => a2 (h.2 _ (List.mem_of_getElem? HX.out)))
      clear a2
      go_wp2_with fail
      have HK := St.hdrewN HKp 1
      first | (go_region_with (go_at_call 51; refine (PRight_st HK x1 x2 x3 x4 n false H2).mono ?_; rintro e w5 ⟨rfl, HK⟩)) | fail
      all_goals (go_wp2_with fail; go_ret; exact ⟨rfl, Lib.hid (HK.out.weaken fun _ h => h.2.2)⟩)
  · obtain rfl : k = l.length := by omega
    have hd : decide (l.length < l.length) = false := by simp
    obtain rfl := pB_t hv ⟨HA.out, by have := HR.out; unfold PartsTo at this; rwa [List.take_length] at this⟩
    go_wp2_with fail
    go_ret
    exact ⟨rfl, Lib.hid (HK.out.weaken fun _ h => h.2)⟩
end
end Go.Proofs.Yticfbbigljgjdaa
