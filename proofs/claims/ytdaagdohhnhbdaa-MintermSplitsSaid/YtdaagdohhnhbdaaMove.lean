/- Contracts of span.Union, Within, Meets, Move and of umlautref01.Move. Condition: lists of fewer than 2^37 spans (2^20 for the document's), whose numbers are ints. -/
import Derived.Test.YtdaagdohhnhbdaaAsk
import Derived.Test.YtdaagdohhnhbdaaConcat
import Derived.Deep.RegionHeld3
import Derived.Deep.AppendLies
namespace Go.Proofs.Ytdaagdohhnhbdaa
open Go.RowKit
set_option linter.unusedVariables false

set_option maxRecDepth 100000 in
set_option maxHeartbeats 4000000 in
theorem Union_any (A B : Option Addr) (n c m d : Nat) (a b : List Sp) (w : World) (h : Spans w A n a) (h' : Spans w B m b) (hw : SpW a) (hw' : SpW b) (hn : n < 274877906944) (hm : m < 274877906944) :
    Calls Try.prog 51 #[.slice A n c, .slice B m d] w fun e w' => ∃ r, OwnRep w w.heap.size r e w' ∧ Rep r (fun x => Mem a x ∨ Mem b x) := by
  have HC := Lib.hid (Concat2_any w.heap.size A B n c m d a b (w.alloc (.cells #[.slice A n c, .slice B m d] 24)) (h.alloc _) (h'.alloc _) hn hm
    (by have hb := heap_alloc_new w (.cells #[.slice A n c, .slice B m d] 24); simp only [World.cell?, hb]; rfl)
    (by have hb := heap_alloc_new w (.cells #[.slice A n c, .slice B m d] 24); simp only [World.cell?, hb]; rfl))
  clear h h'
  go_enter Try.func51, Try.ntmps51
  go_wp2_with fail
  refine HC.out.mono ?_
  rintro e w1 ⟨v, rfl, hown, hbel⟩
  obtain ⟨av, cv, hv⟩ := own_shape hown
  subst hv
  have hb1 : Below w.heap.size w w1 := below_to ((Below.refl _ _).alloc (Nat.le_refl _) _) hbel
  have hsp : Spans w1 av (n + m) (a ++ b) := Sl.of_own hown
  have HN := Lib.hid (Norm_any av (n + m) cv (a ++ b) w1 hsp (fun p hp => by rcases List.mem_append.1 hp with hp | hp; exact hw p hp; exact hw' p hp) (by omega))
  have HB1 := Lib.hid hb1
  clear hown hbel hb1 hsp HC
  go_wp2_with fail
  refine HN.out.mono ?_
  rintro e w2 ⟨r, ⟨v, rfl, hv, ho, hb⟩, hr, hrl⟩
  have HO := Lib.hid (own_base ho HB1.out.size)
  have HB := Lib.hid (below_to HB1.out hb)
  have HR := Lib.hid hr
  have HV := Lib.hid hv
  obtain ⟨av2, cv2, rfl⟩ := own_shape ho
  clear ho hb hr hv
  go_wp2_with fail
  go_ret
  refine ⟨r, ⟨_, rfl, HV.out, HO.out, HB.out⟩, HR.out.congr fun x => ?_⟩
  unfold Mem
  rw [InS_append]
  constructor
  · rintro ⟨h1, h2, h3 | h3⟩
    · exact .inl ⟨h1, h2, h3⟩
    · exact .inr ⟨h1, h2, h3⟩
  · rintro (⟨h1, h2, h3⟩ | ⟨h1, h2, h3⟩)
    · exact ⟨h1, h2, .inl h3⟩
    · exact ⟨h1, h2, .inr h3⟩

set_option maxRecDepth 100000 in
set_option maxHeartbeats 4000000 in
theorem Within_any (A B : Option Addr) (n c m d : Nat) (a b r : List Sp) (w : World) (h : Spans w A n a) (h' : Spans w B m b) (hw : SpW a) (hw' : SpW b) (hn : n < 137438953472) (hm : m < 137438953472) (hr : Rep r (fun x => Mem a x ∧ ¬ Mem b x)) :
    Gives Try.prog 37 #[.slice A n c, .slice B m d] w (.bool (decide (r = []))) := by
  have HM := Lib.hid (Minus_any A B n c m d a b w h h' hw hw' hn hm)
  have HR := Lib.hid hr
  clear h h' hr
  unfold Gives
  go_enter Try.func37, Try.ntmps37
  go_wp2_with fail
  refine HM.out.mono ?_
  rintro e w1 ⟨r', ho, hr', hl⟩
  obtain rfl : r' = r := Rep.unique hr' HR.out (fun _ => Iff.rfl)
  obtain ⟨A1, c1, rfl, hc1, hm1, hsp, hb⟩ := of_ownList ho
  have HB := Lib.hid hb
  clear ho hr' hsp hb
  rcases r' with _ | ⟨p, l⟩
  · go_wp2_with fail
    go_ret
    exact ⟨rfl, HB.out⟩
  · have hz : (((p :: l).length : Int) == 0) = false := by simp; omega
    generalize (p :: l).length = N at *
    go_wp2_with fail
    go_ret
    exact ⟨ret_bool (by simp), HB.out⟩

set_option maxRecDepth 100000 in
set_option maxHeartbeats 4000000 in
theorem Meets_any (A B : Option Addr) (n c m d : Nat) (a b r : List Sp) (w : World) (h : Spans w A n a) (h' : Spans w B m b) (hw : SpW a) (hw' : SpW b) (hn : n < 137438953472) (hm : m < 137438953472) (hr : Rep r (fun x => Mem a x ∧ Mem b x)) :
    Gives Try.prog 50 #[.slice A n c, .slice B m d] w (.bool (!decide (r = []))) := by
  have HM := Lib.hid (Meet_any A B n c m d a b w h h' hw hw' (by omega) (by omega))
  have HR := Lib.hid hr
  clear h h' hr
  unfold Gives
  go_enter Try.func50, Try.ntmps50
  go_wp2_with fail
  refine HM.out.mono ?_
  rintro e w1 ⟨r', ho, hr', hl⟩
  obtain rfl : r' = r := Rep.unique hr' HR.out (fun _ => Iff.rfl)
  obtain ⟨A1, c1, rfl, hc1, hm1, hsp, hb⟩ := of_ownList ho
  have HB := Lib.hid hb
  clear ho hr' hsp hb
  rcases r' with _ | ⟨p, l⟩
  · go_wp2_with fail
    go_ret
    exact ⟨rfl, HB.out⟩
  · have hz : 0 < (p :: l).length := by simp
    generalize (p :: l).length = N at *
    go_wp2_with fail
    go_ret
    exact ⟨ret_bool (by simp), HB.out⟩

/-- spans that are moved -/
def shf (d : Int) (l : List Sp) : List Sp := l.map fun p => (p.1 + d, p.2 + d)
theorem shf_length (d : Int) (l : List Sp) : (shf d l).length = l.length := by simp [shf]
theorem shf_InS (d : Int) (l : List Sp) (x : Int) : InS (shf d l) x ↔ InS l (x - d) := by
  induction l with
  | nil => simp [shf, InS]
  | cons p l ih =>
    have e : shf d (p :: l) = (p.1 + d, p.2 + d) :: shf d l := rfl
    rw [e]
    simp only [InS, ih]
    constructor
    · rintro (h | h)
      · exact .inl ⟨by omega, by omega⟩
      · exact .inr h
    · rintro (h | h)
      · exact .inl ⟨by omega, by omega⟩
      · exact .inr h
theorem shf_rep {d : Int} {l s : List Sp} {S : Int → Prop} (hl : Rep l S) (hs : Rep s (Mem (shf d l))) : Rep s (fun x => -1073741824 ≤ x ∧ x ≤ 1073741824 ∧ S (x - d)) :=
  hs.congr fun x => by unfold Mem; rw [shf_InS, hl.2]
theorem shf_spw {d : Int} {l : List Sp} (hl : Plain l) (hd : -2147483648 ≤ d ∧ d ≤ 2147483648) : SpW (shf d l) := by
  intro p hp
  obtain ⟨q, hq, rfl⟩ := List.mem_map.1 hp
  have := PlainF.spw hl (Int.le_refl _) q hq
  simp only; omega
theorem shf_take (d : Int) (l : List Sp) (k : Nat) (p : Sp) (h : l[k]? = some p) : shf d (l.take (k + 1)) = shf d (l.take k) ++ [(p.1 + d, p.2 + d)] := by
  rw [take_snoc? h]; simp [shf]
/-- a list of the call's own, or nil where there is nothing -/
theorem ownList_of_rep {w w' : World} {base : Nat} {r : List Sp} {e : Ending} (h : OwnRep w base r e w') : OwnList w base r e w' := by
  obtain ⟨v, he, _, ho, hb⟩ := h
  exact ⟨v, he, ho, hb⟩

set_option maxRecDepth 100000 in
set_option maxHeartbeats 8000000 in
theorem Move_any (A : Option Addr) (n c : Nat) (l : List Sp) (d : Int) (w : World) (h : Spans w A n l) (hw : SpW l) (hn : n < 137438953472) :
    Calls Try.prog 88 #[.slice A n c, .int .i64 d] w fun e w' => ∃ r, OwnList w w.heap.size r e w' ∧ Rep r (fun x => -1073741824 ≤ x ∧ x ≤ 1073741824 ∧ Mem l (x - d)) := by
  by_cases hd : d < -2147483648 ∨ 2147483648 < d
  · have hnil : Rep [] (fun x => -1073741824 ≤ x ∧ x ≤ 1073741824 ∧ Mem l (x - d)) := ⟨trivial, fun x => by
      simp only [InS, Mem, false_iff]; omega⟩
    have HNIL := Lib.hid hnil
    clear hnil
    rcases hd with hd | hd
    · go_enter Try.func88, Try.ntmps88
      go_wp2_with fail
      go_ret
      exact ⟨[], ⟨_, rfl, World.ownsRow_nil _ _ _ _, Below.refl _ _⟩, HNIL.out⟩
    · have hd2 : ¬ d < -2147483648 := by omega
      go_enter Try.func88, Try.ntmps88
      go_wp2_with fail
      go_ret
      exact ⟨[], ⟨_, rfl, World.ownsRow_nil _ _ _ _, Below.refl _ _⟩, HNIL.out⟩
  have hd1 : -2147483648 ≤ d := by omega
  have hd2 : d ≤ 2147483648 := by omega
  clear hd
  have HN := Lib.hid (Norm_any A n c l w h hw (by omega))
  clear h
  go_enter Try.func88, Try.ntmps88
  go_wp2_with fail
  refine HN.out.mono ?_
  rintro e w1 ⟨r, ho, hr, hrl⟩
  obtain ⟨g1, c1, rfl, hg1, hc1, hm1, hrow1, hb1⟩ := ho.shape
  have HRow1 := Lib.hid hrow1
  have HB1 := Lib.hid hb1
  have HR := Lib.hid hr
  clear ho hrow1 hb1 hr HN
  go_wp2_with fail
  go_loopw [17] (fun i wr => ∃ k : Nat, k ≤ r.length ∧ i = .int .i64 k ∧ wr.ownsRow w.heap.size 34 2 (.slice (some ⟨g1, 0, none⟩) r.length c1) r.length (spanCells (shf d (r.take k) ++ r.drop k)) ∧ Below w.heap.size w wr) (fun i _ => r.length - (intOf i).toNat)
  case atStart => exact ⟨0, Nat.zero_le _, rfl, by simpa [shf] using HRow1.out, HB1.out⟩
  case round =>
  obtain ⟨k, hk, rfl, hown, hbel⟩ := hrel
  have HO := Lib.hid hown
  have HB := Lib.hid hbel
  clear hown hbel
  by_cases hlt : k < r.length
  · obtain ⟨x, hx⟩ : ∃ x, r[k]? = some x := ⟨_, List.getElem?_eq_getElem hlt⟩
    have hxb := PlainF.spw HR.out.1 (Int.le_refl _) x (List.mem_of_getElem? hx)
    have hl1 : (shf d (r.take k)).length = k := by rw [shf_length, List.length_take]; omega
    have hat : (shf d (r.take k) ++ r.drop k)[k]? = some x := by
      rw [List.getElem?_append_right (by omega), hl1, Nat.sub_self, List.getElem?_drop, Nat.add_zero, hx]
    have hcx := spanCells_at _ _ _ hat
    have hset : Hid (((spanCells (shf d (r.take k) ++ r.drop k)).set (k * 2) (.int .i64 (x.1 + d))).set (k * 2 + 1) (.int .i64 (x.2 + d)) = spanCells (shf d (r.take (k + 1)) ++ r.drop (k + 1))) := by
      unfold Hid
      rw [shf_take d r k x hx, drop_cons? hx, List.append_assoc, spanCells_append, spanCells_append (shf d (r.take k))]
      have hl2 : (spanCells (shf d (r.take k))).length = k * 2 := by rw [spanCells_length, hl1]
      rw [List.set_append_right _ _ (by omega), List.set_append_right _ _ (by omega), hl2, Nat.sub_self, show k * 2 + 1 - k * 2 = 1 by omega]
      simp [spanCells]
    have hlt1 : g1 < wr.heap.size := (HO.out.lt g1 rfl).2
    have hd3 : wr.cell? ⟨g1, k * 2, none⟩ = some (.int .i64 x.1) := by rw [HO.out.cellAt _ (by omega)]; exact hcx.1
    have hd4 : wr.cell? ⟨g1, k * 2 + 1, none⟩ = some (.int .i64 x.2) := by rw [HO.out.cellAt _ (by omega)]; exact hcx.2
    have hf1 := HO.out.frozenAt (k * 2)
    have hf2 := HO.out.frozenAt (k * 2 + 1)
    have HST := Lib.hid ((HO.out.stored (k * 2) (.int .i64 (x.1 + d))).1.stored (k * 2 + 1) (.int .i64 (x.2 + d))).1
    obtain ⟨x1, x2⟩ := x
    simp only at hxb hd3 hd4 HST hset
    clear hcx hx hat
    go_wp2_with fail
    go_roundw
    case rel => exact ⟨k + 1, by omega, by go_num, hset.out ▸ HST.out, (HB.out.setCell hg1 _).setCell hg1 _⟩
    case measure => simp [intOf]; omega
  · have hdk : decide (k < r.length) = false := by simpa using hlt
    obtain rfl : k = r.length := by omega
    rw [List.take_length, List.drop_length, List.append_nil] at HO
    have hsp : Spans wr (some ⟨g1, 0, none⟩) r.length (shf d r) := Sl.of_own HO.out
    have HN := Lib.hid (Norm_any (some ⟨g1, 0, none⟩) r.length c1 (shf d r) wr hsp (shf_spw HR.out.1 ⟨hd1, hd2⟩) (by omega))
    clear hsp
    go_wp2_with fail
    refine HN.out.mono ?_
    rintro e w2 ⟨s, ⟨v, rfl, hv, ho, hb⟩, hs, hsl⟩
    have HO2 := Lib.hid (own_base ho HB.out.size)
    have HB2 := Lib.hid (below_to HB.out hb)
    have HS := Lib.hid hs
    obtain ⟨av2, cv2, rfl⟩ := own_shape ho
    clear ho hb hs hv
    go_wp2_with fail
    go_ret
    exact ⟨s, ⟨_, rfl, HO2.out, HB2.out⟩, shf_rep HR.out HS.out⟩

end Go.Proofs.Ytdaagdohhnhbdaa
