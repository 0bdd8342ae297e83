/- Contracts of umlautref05.next and umlautref05.sign. Condition: the lists at hand are known. -/
import Derived.Test.YtdaagdohhnhbdaaSplitsLaw
namespace Go.Proofs.Ytdaagdohhnhbdaa
open Go.RowKit
set_option linter.unusedVariables false
set_option linter.unusedSimpArgs false

/-- the document's text of what sets have a number -/
def strG (g : List Bool) : ByteArray := ⟨(g.map fun b => if b then (49 : UInt8) else 48).toArray⟩
def strV (g : List Bool) : Value := .string (strG g)
theorem strG_size (g : List Bool) : (strG g).size = g.length := by show ((g.map _).toArray).size = _; simp
theorem strG_inj {g h : List Bool} (e : strG g = strG h) : g = h := by
  have e2 : (g.map fun b => if b then (49 : UInt8) else 48) = (h.map fun b => if b then (49 : UInt8) else 48) := by
    have := congrArg (fun x : ByteArray => x.data.toList) e
    simpa [strG] using this
  induction g generalizing h with
  | nil => cases h with
    | nil => rfl
    | cons b h => simp at e2
  | cons a g ih => cases h with
    | nil => simp at e2
    | cons b h =>
      simp only [List.map_cons, List.cons.injEq] at e2
      rw [ih (by unfold strG; rw [e2.2]) e2.2]
      have := e2.1
      cases a <;> cases b <;> simp_all
theorem strG_snoc (g : List Bool) (b : Bool) : strG (g ++ [b]) = strG g ++ strG [b] := by
  apply ByteArray.ext
  simp [strG]

section
variable {w0 w : World} {F : World → Prop} {A B : Option Addr} {a : List Sp} {L : List (Item Sp)}
set_option maxRecDepth 100000 in
set_option maxHeartbeats 16000000 in
theorem next_st (hK : Hid (St w0 w F)) (ha : ∀ W, F W → Lst A a W) (c : Nat) (f e : Int) (hf : -1073741824 ≤ f ∧ f ≤ 1073741824) (he : -1073741824 ≤ e ∧ e ≤ 1073741824) (hp : Hid (Plain a)) {v : Int} (hv : nextL a f e = v) :
    Calls Try.prog 76 #[.slice A a.length c, .int .i64 f, .int .i64 e] w (RetV w0 (.int .i64 v) F) := by
  have HV := Lib.hid hv
  have hal : a.length < 137438953472 := (ha _ hK.out.now).len
  obtain ⟨hf0, hf1⟩ := hf
  obtain ⟨he0, he1⟩ := he
  clear hv
  go_enter Try.func76, Try.ntmps76
  go_wp2_with fail
  go_loopw [7] (fun i wr => ∃ k : Nat, k ≤ a.length ∧ i = .int .i64 k ∧ Hid (nextL (a.drop k) f e = v) ∧ Hid (St w0 wr F)) (fun i _ => a.length - (intOf i).toNat)
  case atStart => exact ⟨0, Nat.zero_le _, rfl, HV, hK⟩
  case round =>
  obtain ⟨k, hk, rfl, HV, HK⟩ := hrel
  by_cases hlt : k < a.length
  · obtain ⟨b, off, p, rfl, hx, hc1, hc2⟩ := (ha _ HK.out.now).sp.at_ hlt
    have HX := Lib.hid (drop_cons? hx)
    have hpb : -1073741824 ≤ p.1 ∧ p.1 ≤ p.2 ∧ p.2 ≤ 1073741824 := PlainF.spw hp.out (by omega) p (List.mem_of_getElem? hx)
    obtain ⟨hp0, hp1, hp2⟩ := hpb
    have HN : Hid ((if p.2 ≤ f then nextL (a.drop (k + 1)) f e else if f < p.1 then min (p.1 - 1) e else f) = v) := by
      have := HV.out
      rw [HX.out] at this
      exact Lib.hid this
    clear hx
    by_cases c1 : p.2 ≤ f
    · go_wp2_with fail
      exact ⟨⟨k + 1, by omega, by go_num, by have := HN.out; rw [if_pos c1] at this; exact Lib.hid this, HK⟩, by simp [intOf]; omega⟩
    · by_cases c2 : f < p.1
      · have hm : min (p.1 - 1) e = v := by have := HN.out; rw [if_neg c1, if_pos c2] at this; exact this
        go_wp2_with fail
        go_ret
        exact ⟨rfl, HK⟩
      · have hm : f = v := by have := HN.out; rw [if_neg c1, if_neg c2] at this; exact this
        subst hm
        go_wp2_with fail
        go_ret
        exact ⟨rfl, HK⟩
  · obtain rfl : k = a.length := by omega
    have hd : decide (a.length < a.length) = false := by simp
    have hm : e = v := by have := HV.out; rw [List.drop_length] at this; exact this
    subst hm
    go_wp2_with fail
    go_ret
    exact ⟨rfl, HK⟩

theorem signB_take {fam : List (List Sp)} {k : Nat} {s : List Sp} (h : fam[k]? = some s) (x : Int) : signB (fam.take (k + 1)) x = signB (fam.take k) x ++ [hasB s x] := by
  unfold signB; rw [take_snoc? h, List.map_append]; rfl
set_option maxRecDepth 100000 in
set_option maxHeartbeats 16000000 in
theorem sign_st (hK : Hid (St w0 w F)) (hb : ∀ W, F W → LL B L W) (hn : L.length < 1048576) (d : Nat) (x : Int) :
    Calls Try.prog 77 #[.slice B L.length d, .int .i64 x] w (RetV w0 (.string (strG (signB (bodies L) x))) F) := by
  go_enter Try.func77, Try.ntmps77
  go_wp2_with fail
  go_loopw [5, 6] (fun sv i wr => ∃ (k : Nat) (t : ByteArray), k ≤ L.length ∧ i = .int .i64 k ∧ sv = .string t ∧ Hid (t = strG (signB ((bodies L).take k) x)) ∧ Hid (St w0 wr F)) (fun _ i _ => L.length - (intOf i).toNat)
  case atStart => exact ⟨0, strG [], Nat.zero_le _, rfl, rfl, Lib.hid rfl, hK⟩
  case round =>
  obtain ⟨k, t, hk, rfl, rfl, HT, HK⟩ := hrel
  by_cases hlt : k < L.length
  · obtain ⟨gb, off, ba, bc, b, hB, hx, hc, hwd⟩ := (hb _ HK.out.now).at_ hlt
    have hbk : (bodies L)[k]? = some b := by unfold bodies; rw [List.getElem?_map, hx]; rfl
    have HN : Hid (strG (signB ((bodies L).take (k + 1)) x) = t ++ strG [hasB b x]) := Lib.hid (by rw [signB_take hbk, strG_snoc, HT.out])
    have hsz : t.size ≤ 1048576 := by
      rw [HT.out, strG_size]
      have : (signB ((bodies L).take k) x).length ≤ L.length := by unfold signB; simp [bodies_length]; omega
      omega
    have HK2 := Lib.hid (HK.out.add (Below.refl _ _) (G := Lst ba b) (fun W hW => hwd.below hW))
    subst hB
    clear hbk hx hwd
    obtain ⟨v, hv⟩ : ∃ v, hasB b x = v := ⟨_, rfl⟩
    rw [hv] at HN
    go_wp2_with fail
    refine (rHas_st HK2 (fun _ h => h.1) _ x hv).mono ?_
    rintro e w1 ⟨rfl, HK3⟩
    cases v
    · clear hv
      go_wp2_with fail
      exact ⟨⟨k + 1, _, by omega, by go_num, rfl, Lib.hid HN.out.symm, Lib.hid (HK3.out.weaken fun W h => h.2)⟩, by simp [intOf]; omega⟩
    · clear hv
      go_wp2_with fail
      exact ⟨⟨k + 1, _, by omega, by go_num, rfl, Lib.hid HN.out.symm, Lib.hid (HK3.out.weaken fun W h => h.2)⟩, by simp [intOf]; omega⟩
  · obtain rfl : k = L.length := by omega
    have hd : decide (L.length < L.length) = false := by simp
    have HE : Hid (t = strG (signB (bodies L) x)) := by
      unfold Hid
      rw [HT.out, ← bodies_length (L := L), List.take_length]
    go_wp2_with fail
    go_ret
    exact ⟨congrArg (fun u => Ending.returned (.string u)) HE.out, HK⟩
end
end Go.Proofs.Ytdaagdohhnhbdaa
