/- Contracts of table.right and what it calls. Condition: the terms at hand are known. -/
import Derived.Test.YticfbbigljgjdaaTermRight
namespace Go.Proofs.Yticfbbigljgjdaa
open Go.RowKit
set_option linter.unusedVariables false
set_option linter.unusedSimpArgs false

/-- an index is found just if something is wrong -/
def RetIx (w0 : World) (v : Bool) (F : World → Prop) (e : Ending) (w' : World) : Prop := ∃ r : Int, e = .returned (.int .i64 r) ∧ ((v = true ∧ r = -1) ∨ (v = false ∧ 0 ≤ r)) ∧ Hid (St w0 w' F)
def TermsTo (n : Int) (l : List TermI) (k : Nat) : Prop := ∀ i ∈ l.take k, TermOk n i.L
theorem TermsTo.all {n : Int} {l : List TermI} (h : TermsTo n l l.length) : TermsOk n (l.map TermI.L) := fun t ht => by
  obtain ⟨i, hi, rfl⟩ := List.mem_map.1 ht
  exact h i (by rwa [List.take_length])
theorem TermsTo.next {n : Int} {l : List TermI} {k : Nat} {i : TermI} (h : TermsTo n l k) (hx : l[k]? = some i) (hi : TermOk n i.L) : TermsTo n l (k + 1) := fun q hq => by
  rw [take_snoc? hx] at hq
  rcases List.mem_append.1 hq with hq | hq
  · exact h q hq
  · simp at hq; subst hq; exact hi
section
variable {w0 w : World} {F : World → Prop} {A : Option Addr} {l : List TermI}
theorem trm_st (hK : Hid (St w0 w F)) (i : TermI) (hp : ∀ W, F W → PartsAt i.pa i.ps W) (n : Int) (v : Bool) (hv : Hid (pB (TermOk n i.L) = v)) :
    Calls Try.prog 43 #[.agg #[.int .i64 i.b, .int .i64 i.d, .int .i64 i.t, .int .i64 i.u, .int .i64 i.s, .slice i.pa i.ps.length i.pc], .int .i64 1, .int .i64 1, .int .i64 n] w (RetV w0 (.bool v) F) :=
  tRight_st hK hp i.b i.d i.t i.u i.s i.pc n v hv
set_option maxRecDepth 100000 in
set_option maxHeartbeats 16000000 in
theorem right1_st (hK : Hid (St w0 w F)) (i : TermI) (hp : ∀ W, F W → PartsAt i.pa i.ps W) (nb : Nat) (n : Int) (hn : ∀ W, F W → BoxC nb [.int .i64 n] W) (v : Bool) (hv : Hid (pB (TermOk n i.L) = v)) :
    Calls Try.prog 42 #[.agg #[.int .i64 i.b, .int .i64 i.d, .int .i64 i.t, .int .i64 i.u, .int .i64 i.s, .slice i.pa i.ps.length i.pc], .pointer (some ⟨nb, 0, none⟩)] w (RetV w0 (.bool (!v)) F) := by
  have HK := St.box hK [.int .i64 i.b, .int .i64 i.d, .int .i64 i.t, .int .i64 i.u, .int .i64 i.s, .slice i.pa i.ps.length i.pc] 74
  have hc := hn _ HK.out.now.2 0 _ rfl
  have HP := Lib.hid hp
  clear hp hn
  go_enter Try.func42, Try.ntmps42
  go_wp2_with fail
  refine (trm_st HK i (fun _ h => HP.out _ h.2) n v hv).mono ?_
  rintro e w1 ⟨rfl, HK1⟩
  cases v
  all_goals
    go_wp2_with fail
    go_ret
    exact ⟨rfl, Lib.hid (HK1.out.weaken fun _ h => h.2)⟩
set_option maxRecDepth 100000 in
set_option maxHeartbeats 16000000 in
theorem indexT_st (hK : Hid (St w0 w F)) (hp : ∀ W, F W → TermsAt A l W) (c : Nat) (nb : Nat) (n : Int) (hn : ∀ W, F W → BoxC nb [.int .i64 n] W) (v : Bool) (hv : Hid (pB (TermsOk n (l.map TermI.L)) = v)) :
    Calls Try.prog 48 #[.slice A l.length c, .func (.func 42) #[] #[.pointer (some ⟨nb, 0, none⟩)]] w (RetIx w0 v F) := by
  have hln := (hp _ hK.out.now).ln
  have HP := Lib.hid hp
  have HN := Lib.hid hn
  clear hp hn
  go_enter Try.func48, Try.ntmps48
  go_wp2_with fail
  go_loopw [8] (fun i wr => ∃ k : Nat, k ≤ l.length ∧ i = .int .i64 k ∧ Hid (TermsTo n l k) ∧ Hid (St w0 wr F)) (fun i _ => l.length - (intOf i).toNat)
  case atStart => exact ⟨0, Nat.zero_le _, rfl, Lib.hid (fun i hi => by simp at hi), hK⟩
  case round =>
  obtain ⟨k, hk, rfl, HR, HK⟩ := hrel
  by_cases hlt : k < l.length
  · obtain ⟨pb, off, i, rfl, hx, hw, hd0, hd1, hd2, hd3, hd4, hd5⟩ := (HP.out _ HK.out.now).at_ hlt
    have HX := Lib.hid hx
    have HKi := Lib.hid (HK.out.add (Below.refl _ _) (G := PartsAt i.pa i.ps) (fun W hW => hw.2.below hW))
    clear hx hw
    by_cases a2 : TermOk n i.L
    · have H2 := Lib.hid (pB_true a2)
      have HR2 := Lib.hid (HR.out.next HX.out a2)
      clear a2
      go_wp2_with fail
      refine (right1_st HKi i (fun _ h => h.1) nb n (fun _ h => HN.out _ h.2) true H2).mono ?_
      rintro e w1 ⟨rfl, HK1⟩
      go_wp2_with fail
      exact ⟨⟨k + 1, by omega, by go_num, HR2, Lib.hid (HK1.out.weaken fun _ h => h.2)⟩, by simp [intOf]; omega⟩
    · have H2 := Lib.hid (pB_false a2)
      obtain rfl := pB_f hv (fun h => a2 (h _ (List.mem_map.2 ⟨i, List.mem_of_getElem? HX.out, rfl⟩)))
      clear a2
      go_wp2_with fail
      refine (right1_st HKi i (fun _ h => h.1) nb n (fun _ h => HN.out _ h.2) false H2).mono ?_
      rintro e w1 ⟨rfl, HK1⟩
      go_wp2_with fail
      go_ret
      exact ⟨k, rfl, .inr ⟨rfl, by omega⟩, Lib.hid (HK1.out.weaken fun _ h => h.2)⟩
  · obtain rfl : k = l.length := by omega
    have hd : decide (l.length < l.length) = false := by simp
    obtain rfl := pB_t hv HR.out.all
    go_wp2_with fail
    go_ret
    exact ⟨-1, rfl, .inl ⟨rfl, rfl⟩, HK⟩
set_option maxHeartbeats 16000000 in
theorem containsT_st (hK : Hid (St w0 w F)) (hp : ∀ W, F W → TermsAt A l W) (c : Nat) (nb : Nat) (n : Int) (hn : ∀ W, F W → BoxC nb [.int .i64 n] W) (v : Bool) (hv : Hid (pB (TermsOk n (l.map TermI.L)) = v)) :
    Calls Try.prog 41 #[.slice A l.length c, .func (.func 42) #[] #[.pointer (some ⟨nb, 0, none⟩)]] w (RetV w0 (.bool (!v)) F) := by
  have HP := Lib.hid hp
  have HN := Lib.hid hn
  clear hp hn
  go_enter Try.func41, Try.ntmps41
  go_wp2_with fail
  refine (indexT_st hK HP.out c nb n HN.out v hv).mono ?_
  rintro e w1 ⟨r, rfl, hr, HK1⟩
  rcases hr with ⟨rfl, rfl⟩ | ⟨rfl, hr⟩
  all_goals
    go_wp2_with fail
    go_ret
    exact ⟨rfl, HK1⟩
set_option maxHeartbeats 16000000 in
theorem right_st (hK : Hid (St w0 w F)) (hp : ∀ W, F W → TermsAt A l W) (c : Nat) (n : Int) (v : Bool) (hv : Hid (pB (TermsOk n (l.map TermI.L)) = v)) :
    Calls Try.prog 39 #[.slice A l.length c, .int .i64 n] w (RetV w0 (.bool v) F) := by
  have HP := Lib.hid hp
  have HK := St.box hK [.int .i64 n] 3
  clear hp
  go_enter Try.func39, Try.ntmps39
  go_wp2_with fail
  refine (containsT_st HK (fun _ h => HP.out _ h.2) c w.heap.size n (fun _ h => h.1) v hv).mono ?_
  rintro e w1 ⟨rfl, HK1⟩
  cases v
  all_goals
    go_wp2_with fail
    go_ret
    exact ⟨rfl, Lib.hid (HK1.out.weaken fun _ h => h.2)⟩
end
end Go.Proofs.Yticfbbigljgjdaa
