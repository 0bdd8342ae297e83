/- Contracts and plain laws that the proof leans on. Condition: as each theorem says. -/
import Derived.Test.YtlmkokeapbleoaaGreatP09
import Derived.Test.YtlmkokeapbleoaaGreatP04
import Derived.Test.YtlmkokeapbleoaaGreatP05
import Derived.Test.YtlmkokeapbleoaaGreatP01
import Derived.Maps.OwnIn
import Derived.Maps.OwnSet
import Derived.Maps.RangeWalk
import Derived.DeepKeys4
import Derived.Deep.RegionWith
import Derived.Deep.RegionHeld3
import Derived.Deep.DeepCutAuto
import Derived.Laws.StructEq
set_option maxRecDepth 100000
set_option maxHeartbeats 64000000
set_option linter.unusedVariables false
set_option linter.unusedSimpArgs false
namespace Go.Proofs.YtlmkokeapbleoaaGreat
open Go.RowKit
theorem and255 (z : Int) : ∃ v, bits .and .i64 z 255 = v ∧ IntKind.u8.wrap v = z % 256 := by
 refine ⟨_, rfl, ?_⟩
 show IntKind.u8.wrap (IntKind.i64.wrap (((BitVec.ofInt 64 z) &&& (BitVec.ofInt 64 255)).toNat : Int)) = _
 have e1 : (BitVec.ofInt 64 (255 : Int)).toNat = 2 ^ 8 - 1 := by decide
 have e2 : (BitVec.ofInt 64 z).toNat = (z % 18446744073709551616).toNat := by simp [BitVec.toNat_ofInt]
 rw [BitVec.toNat_and, e1, Nat.and_two_pow_sub_one_eq_mod, e2]
 simp [IntKind.wrap, IntKind.signed, IntKind.bits]
 omega
def RetRB (l : List Int) (W : World) (e : Ending) (W' : World) : Prop :=
 ∃ A' c', e = .returned (.slice A' l.length c') ∧ Hid (W'.ownsRow W.heap.size 5 1 (.slice A' l.length c') l.length (l.map (Value.int .u8))) ∧ Hid (Below W.heap.size W W')
section
theorem rwrite_st (W : World) (o : OutI) {B : Option Addr} {wl : List Int} (cw : Nat)
  (hG : Hid (∀ V, Below W.heap.size W V → TermsAt o.a o.l V ∧ BytesAt B wl V)) (hn : Hid (∀ t ∈ o.l, NumsOk t.L)) (hl : o.l.length ≤ 1048576) (hw : wl.length ≤ 1048576) :
  Calls Tryz.prog 101 #[.slice o.a o.l.length o.c, .slice B wl.length cw] W (RetRB (wrB o.L wl) W) := by
 obtain ⟨oa, oc, ol⟩ := o
 simp only at hG hn hl ⊢
 have HU := Lh ((hG.out W (Below.refl _ _)).2.u8)
 go_enter Tryz.func101, Tryz.ntmps101
 go_wp2_with fail
 go_loopw [5, 6] (fun sv iv wr => ∃ (k : Nat) (A2 : Option Addr) (c2 : Nat), k ≤ wl.length ∧ iv = .int .i64 k ∧ sv = .slice A2 k c2 ∧ Hid (wr.ownsRow W.heap.size 21 1 (.slice A2 k c2) k ((wl.take k).map (Value.int .i32))) ∧ Hid (Below W.heap.size W wr)) (fun _ iv _ => wl.length - (intOf iv).toNat)
 case atStart => exact ⟨0, none, 0, Nat.zero_le _, rfl, rfl, Lh (World.ownsRow_nil _ _ _ _), Lh (Below.refl _ _)⟩
 case round =>
 obtain ⟨k, A2, c2, hk, rfl, rfl, HO1, HB1⟩ := hrel
 by_cases hlt : k < wl.length
 ·obtain ⟨bb, off, x, rfl, hx, hx0, hx1, hcx⟩ := ((hG.out wr HB1.out).2.at_ hlt)
  have hvm : IntKind.i32.wrap x = x := by simp [IntKind.wrap, IntKind.signed, IntKind.bits]; omega
  have hli : (k : Int) < (wl.length : Int) := by omega
  have hl40 : k < 1099511627776 := by omega
  have hb2 : W.heap.size ≤ wr.heap.size := HB1.out.size
  have HTK := Lh (take_snoc? hx)
  obtain ⟨i0, hi, hz0, hz1, hz2⟩ := info_parts infoRune
  clear hx
  go_wp2_with (at_builtin; go_must (refine wpList_pushG rfl _ _ 36 rfl W.heap.size 21 i0 _ 1 4 Tryz.underlying36 hi hz0 hz1 hz2 rfl (by decide) HO1.out rfl [.int .i32 x] 21 rfl rfl (by simp [Value.oneCell']) hl40 (by decide) hb2 ?_); intro A4 c4 w4 HO4 HG4 HN4)
  refine ⟨⟨k + 1, A4, c4, by omega, by go_num, rfl, Lh (by rw [HTK.out, List.map_append]; exact HO4.out), Lh (((HB1.out.alloc HB1.out.size _).grown HG4.out (by simp; omega) (fun j hj => (own_ty HO1.out hj).1)))⟩, by simp [intOf]; omega⟩
 obtain rfl : k = wl.length := by omega
 have hd : decide (wl.length < wl.length) = false := by simp
 have HRU : Hid (RunesAt A2 wl wr) := Lh (by
  have h := Sl.of_own HO1.out
  rw [List.take_length] at h
  refine ⟨?_, fun x hx => ?_, by omega⟩
  ·rw [← List.map_eq_flatMap]; exact h
  ·have := HU.out x hx
   unfold RuneW; omega)
 have HRB : Hid (∀ j, ownA A2 = some j → j < wr.heap.size) := Lh fun j hj => (own_ty HO1.out hj).2.1
 have HB1W := HB1
 clear HO1 HB1
 obtain ⟨ws, hws⟩ : ∃ z, z = wr := ⟨_, rfl⟩
 subst hws
 go_wp2_with fail
 clear hd
 go_loopw [7, 8] (fun sv iv wr => ∃ (k : Nat) (A3 : Option Addr) (c3 : Nat) (l2 : List Int), k ≤ ol.length ∧ iv = .int .i64 k ∧ sv = .slice A3 l2.length c3 ∧ Hid (l2 = wrB ((ol.take k).map TermI.L) wl) ∧ Hid (wr.ownsRow ws.heap.size 5 1 (.slice A3 l2.length c3) l2.length (l2.map (Value.int .u8))) ∧ Hid (Below ws.heap.size ws wr)) (fun _ iv _ => ol.length - (intOf iv).toNat)
 case atStart => exact ⟨0, none, 0, [], Nat.zero_le _, rfl, rfl, Lh (by simp [wrB]), Lh (World.ownsRow_nil _ _ _ _), Lh (Below.refl _ _)⟩
 case round =>
 obtain ⟨k, A3, c3, l2, hk, rfl, rfl, HL2, HO2, HB2⟩ := hrel
 have hl2 : l2.length ≤ k := by
  rw [HL2.out]
  have := wrB_len ((ol.take k).map TermI.L) wl
  rw [List.length_map, List.length_take] at this; omega
 have HBW : Hid (Below W.heap.size W wr) := Lh (HB1W.out.trans (HB2.out.mono HB1W.out.size))
 by_cases hlt : k < ol.length
 ·obtain ⟨tb, toff, t, rfl, ht, htw, d0, d1, d2, d3, d4, d5⟩ := (hG.out wr HBW.out).1.at_ hlt
  obtain ⟨ok, hok⟩ : ∃ v, pB (ValOk t.L wl) = v := ⟨_, rfl⟩
  obtain ⟨z, hz⟩ : ∃ z, (if ok = true then valN t.L wl else 0) = z := ⟨_, rfl⟩
  have HOK := Lh hok
  have HZ := Lh hz
  have HTK := Lh ht
  have hli : (k : Int) < (ol.length : Int) := by omega
  have HNT : Hid (NumsOk ⟨t.b, t.d, t.t, t.u, t.s, t.ps⟩) := Lh (hn.out t (List.mem_of_getElem? HTK.out))
  have HKV : Hid (St wr wr (fun V => RunesAt A2 wl V ∧ PartsAt t.pa t.ps V)) := Lh ⟨fun V hV => by
   have h2 := HB2.out.trans (hV.mono HB2.out.size)
   exact ⟨HRU.out.below h2, ((hG.out V (HB1W.out.trans (h2.mono HB1W.out.size))).1.it t (List.mem_of_getElem? HTK.out)).2⟩, Below.refl _ _⟩
  obtain ⟨va, hva, hvb⟩ := and255 z
  clear hok hz ht htw
  go_wp2_with fail
  refine (rTVal_st HKV (fun _ h => h.2) t.b t.d t.t t.u t.s t.pc (fun _ h => h.1) c2 HNT ok HOK z HZ).mono ?_
  rintro e w2 ⟨rfl, HK2⟩
  have HB3 : Hid (Below ws.heap.size ws w2) := Lh (HB2.out.trans (HK2.out.2.mono HB2.out.size))
  have HO3 : Hid (w2.ownsRow ws.heap.size 5 1 (.slice A3 l2.length c3) l2.length (l2.map (Value.int .u8))) := Lh (own_keep HO2.out fun j hj => HK2.out.2.block j (own_ty HO2.out hj).2.1)
  clear d0 d1 d2 d3 d4 d5
  rcases ok with _ | _
  ·have HNX : Hid (l2 = wrB ((ol.take (k + 1)).map TermI.L) wl) := Lh (by
    rw [HL2.out, take_snoc? HTK.out, List.map_append, List.map_singleton, wrB_snoc, if_neg (by rw [HOK.out]; exact Bool.false_ne_true), List.append_nil])
   go_wp2_with fail
   exact ⟨⟨k + 1, A3, c3, l2, by omega, by go_num, rfl, HNX, HO3, HB3⟩, by simp [intOf]; omega⟩
  ·obtain ⟨i0, hi, hz0, hz1, hz2⟩ := info_parts infoByteD
   have hzv : valN t.L wl = z := by have := HZ.out; simpa using this
   have hl40 : l2.length < 1099511627776 := by omega
   have hb2 : ws.heap.size ≤ w2.heap.size := HB3.out.size
   have HZV := Lh hzv
   clear hzv
   go_wp2_with (at_builtin; go_must (refine wpList_pushG rfl _ _ 79 rfl ws.heap.size 5 i0 _ 1 1 Tryz.underlying79 hi hz0 hz1 hz2 rfl (by decide) HO3.out rfl [.int .u8 (z % 256)] 5 rfl rfl (by simp [Value.oneCell']) hl40 (by decide) hb2 ?_); intro A4 c4 w4 HO4 HG4 HN4)
   have hlen : (l2 ++ [z % 256]).length = l2.length + 1 := by simp
   have HNX : Hid (l2 ++ [z % 256] = wrB ((ol.take (k + 1)).map TermI.L) wl) := Lh (by
    rw [HL2.out, take_snoc? HTK.out, List.map_append, List.map_singleton, wrB_snoc, if_pos HOK.out, HZV.out])
   have HO5 : Hid (w4.ownsRow ws.heap.size 5 1 (.slice A4 (l2 ++ [z % 256]).length c4) (l2 ++ [z % 256]).length ((l2 ++ [z % 256]).map (Value.int .u8))) := Lh (by
    rw [hlen, List.map_append]; exact HO4.out)
   have HB5 : Hid (Below ws.heap.size ws w4) := Lh ((HB3.out.alloc HB3.out.size _).grown HG4.out (by simp; omega) (fun j hj => (own_ty HO3.out hj).1))
   clear hlen
   exact ⟨⟨k + 1, A4, c4, l2 ++ [z % 256], by omega, by go_num, by simp, HNX, HO5, HB5⟩, by simp [intOf]; omega⟩
 ·obtain rfl : k = ol.length := by omega
  have hd : decide (ol.length < ol.length) = false := by simp
  have HE : Hid (l2 = wrB (OutI.L ⟨oa, oc, ol⟩) wl) := Lh (by
   have h1 := HL2.out
   rw [List.take_length] at h1
   exact h1)
  go_wp2_with fail
  go_ret
  exact ⟨A3, c3, (by rw [← HE.out]; rfl), Lh (by rw [← HE.out]; exact own_mono HO2.out HB1W.out.size), HBW⟩
end
namespace Kahn
abbrev Edge := Nat × Nat
def cnt (L : List Edge) (t : Nat) : Nat := L.countP (fun e => e.2 == t)
def outs (E : List Edge) (s : Nat) : List Edge := E.filter (fun e => e.1 == s)
def rounds (E : List Edge) : Nat → (Nat → Bool) → Bool
 | 0, _ => true
 | k+1, on =>
  if E.any (fun e => on e.1) then rounds E k (fun t => E.any (fun e => on e.1 && e.2 == t)) else false
def cyc (E : List Edge) (n : Nat) : Bool := rounds E (n+1) (fun _ => true)
structure KI (E : List Edge) (n : Nat) (W : List Nat) (X : List Edge) (D : Nat → Nat) : Prop where
 nod : W.Nodup
 lt : ∀ t ∈ W, t < n
 sum : ∀ t, t < n → D t + cnt X t = cnt E t
 zero : ∀ t, t < n → (t ∈ W ↔ D t = 0)
 le : ∀ e, X.count e ≤ E.count e
 src : ∀ e ∈ X, e.1 ∈ W
 ord : ∀ e ∈ E, e.2 ∈ W → e.1 ∈ W ∧ W.idxOf e.1 < W.idxOf e.2
theorem rest {X E : List Edge} (h : ∀ e, X.count e ≤ E.count e) : ∃ Y, E.Perm (X ++ Y) := by
 induction X generalizing E with
 | nil => exact ⟨E, .refl _⟩
 | cons x X ih =>
  have hx := h x
  have hm : x ∈ E := List.count_pos_iff.1 (by simp at hx; omega)
  have hp := List.perm_cons_erase hm
  obtain ⟨Y, hY⟩ := ih (E := E.erase x) (by
   intro e
   have h1 := h e
   rw [List.count_cons, hp.count_eq e, List.count_cons] at h1
   split at h1 <;> omega)
  exact ⟨Y, hp.trans (hY.cons x)⟩
theorem cnt_le {X E : List Edge} (h : ∀ e, X.count e ≤ E.count e) (t : Nat) : cnt X t ≤ cnt E t :=
 let ⟨Y, hp⟩ := rest h
 by simp only [cnt]; rw [hp.countP_eq, List.countP_append]; omega
def upd (D : Nat → Nat) (t v : Nat) : Nat → Nat := fun x => if x = t then v else D x
theorem KI.start {E : List Edge} {n : Nat} :
  KI E n ((List.range n).filter (fun t => cnt E t == 0)) [] (cnt E) where
 nod := List.nodup_range.filter _
 lt := fun t ht => List.mem_range.1 (List.mem_filter.1 ht).1
 sum := fun t _ => by simp [cnt]
 zero := fun t ht => by simp [ht]
 le := fun e => by simp
 src := fun e he => absurd he (by simp)
 ord := fun e he ht => by
  have h0 : cnt E e.2 = 0 := by simpa using (List.mem_filter.1 ht).2
  have := List.countP_eq_zero.1 h0 e he
  simp at this
def Gone (E : List Edge) (W : List Nat) (d : Nat) (X : List Edge) : Prop :=
 ∀ e, X.count e = if e.1 ∈ W.take d then E.count e else 0
theorem Gone.start (E : List Edge) (W : List Nat) : Gone E W 0 [] := by intro e; simp
theorem Gone.le {E : List Edge} {W : List Nat} {d : Nat} {X : List Edge} (h : Gone E W d X) (hn : W.Nodup)
  {s : Nat} (hs : W[d]? = some s) {L : List Edge} (hL : L <+: outs E s) :
  ∀ e, (X ++ L).count e ≤ E.count e := by
 intro e
 rw [List.count_append, h e]
 have hsub := hL.sublist.count_le e
 have hnot : s ∉ W.take d := by
  intro hm
  obtain ⟨k, hk, hq⟩ := List.mem_iff_getElem.1 hm
  have hk' := hk
  simp at hk'
  have hdl : d < W.length := by
   rcases Nat.lt_or_ge d W.length with h | h
   ·exact h
   ·rw [List.getElem?_eq_none h] at hs; cases hs
  have h2 : W[d] = s := by rw [List.getElem?_eq_getElem hdl] at hs; simpa using hs
  rw [List.getElem_take] at hq
  have hk2 : k < W.length := by omega
  have := List.pairwise_iff_getElem.1 hn k d hk2 hdl (by omega)
  exact this (hq.trans h2.symm)
 by_cases he : e.1 = s
 ·rw [if_neg (by rw [he]; exact hnot)]
  have : (outs E s).count e ≤ E.count e := List.filter_sublist.count_le e
  omega
 ·have h0 : (outs E s).count e = 0 := by
   apply List.count_eq_zero.2
   intro hm; have := (List.mem_filter.1 hm).2; simp at this; exact he this
  split <;> omega
theorem Gone.next {E : List Edge} {W : List Nat} {d : Nat} {X : List Edge} (h : Gone E W d X) (hn : W.Nodup)
  {s : Nat} (hs : W[d]? = some s) (V : List Nat) : Gone E (W ++ V) (d+1) (X ++ outs E s) := by
 intro e
 have hdl : d < W.length := by
  rcases Nat.lt_or_ge d W.length with h | h
  ·exact h
  ·rw [List.getElem?_eq_none h] at hs; cases hs
 have h2 : W[d] = s := by rw [List.getElem?_eq_getElem hdl] at hs; simpa using hs
 have ht : (W ++ V).take (d+1) = W.take d ++ [s] := by
  rw [List.take_append_of_le_length (by omega), List.take_add_one, hs]; rfl
 rw [ht, List.count_append, h e]
 have hle := h.le hn hs (List.prefix_refl (outs E s)) e
 rw [List.count_append, h e] at hle
 by_cases he : e.1 = s
 ·have hin : e.1 ∈ W.take d ++ [s] := by simp [he]
  have hout : (outs E s).count e = E.count e := by
   simp only [outs]; rw [List.count_filter]; simp [he]
  rw [if_pos hin, hout]; rw [hout] at hle
  split
  ·rename_i hm
   rw [if_pos hm] at hle
   omega
  ·omega
 ·have h0 : (outs E s).count e = 0 := by
   apply List.count_eq_zero.2
   intro hm; have := (List.mem_filter.1 hm).2; simp at this; exact he this
  have hiff : e.1 ∈ W.take d ++ [s] ↔ e.1 ∈ W.take d := by simp [he]
  rw [h0]; simp only [hiff, Nat.add_zero]
theorem few {W : List Nat} {n : Nat} (hn : W.Nodup) (hlt : ∀ t ∈ W, t < n) : W.length ≤ n := by
 have := hn.length_le_of_subset (l₂ := List.range n) (fun t ht => List.mem_range.2 (hlt t ht))
 simpa using this
theorem full {W : List Nat} {n : Nat} (hn : W.Nodup) (hlt : ∀ t ∈ W, t < n) (hl : n ≤ W.length) : ∀ t, t < n → t ∈ W := by
 intro t ht
 apply Classical.byContradiction
 intro hw
 have := few (W := t :: W) (n := n) (List.nodup_cons.2 ⟨hw, hn⟩) (by
  intro u hu
  rcases List.mem_cons.1 hu with hu | hu
  ·exact hu ▸ ht
  ·exact hlt u hu)
 simp at this; omega
theorem rounds_none {E : List Edge} {W : List Nat} (hall : ∀ e ∈ E, e.1 ∈ W ∧ W.idxOf e.1 < W.idxOf e.2 ∧ W.idxOf e.2 < W.length) :
  ∀ k j (on : Nat → Bool), (∀ t, on t = true → t ∈ W → j ≤ W.idxOf t) → W.length ≤ j + k → rounds E (k+1) on = false := by
 intro k
 induction k with
 | zero =>
  intro j on hon hk
  unfold rounds
  rw [if_neg]
  intro hany
  obtain ⟨e, he, h1⟩ := List.any_eq_true.1 hany
  have := hall e he
  have := hon e.1 h1 this.1
  omega
 | succ k ih =>
  intro j on hon hk
  unfold rounds
  split
  ·apply ih (j+1) _ _ (by omega)
   intro t ht htw
   obtain ⟨e, he, h1⟩ := List.any_eq_true.1 ht
   simp at h1
   have h2 := hall e he
   have h3 := hon e.1 h1.1 h2.1
   rw [← h1.2]; omega
  ·rfl
theorem rounds_some {E : List Edge} (S : Nat → Prop) (hne : ∃ t, S t)
  (hpre : ∀ t, S t → ∃ e ∈ E, e.2 = t ∧ S e.1) :
  ∀ k (on : Nat → Bool), (∀ t, S t → on t = true) → rounds E k on = true := by
 intro k
 induction k with
 | zero => intro on _; rfl
 | succ k ih =>
  intro on hon
  unfold rounds
  obtain ⟨t, ht⟩ := hne
  obtain ⟨e, he, _, hs⟩ := hpre t ht
  rw [if_pos (List.any_eq_true.2 ⟨e, he, hon _ hs⟩)]
  apply ih
  intro u hu
  obtain ⟨e, he, hq, hs⟩ := hpre u hu
  exact List.any_eq_true.2 ⟨e, he, by simp [hon _ hs, hq]⟩
theorem KI.fin {E : List Edge} {n : Nat} {W : List Nat} {X : List Edge} {D : Nat → Nat} (h : KI E n W X D)
  (hE : ∀ e ∈ E, e.1 < n ∧ e.2 < n) (hg : Gone E W W.length X) : decide (W.length < n) = cyc E n := by
 by_cases hl : W.length < n
 ·rw [decide_eq_true hl]
  symm
  apply rounds_some (S := fun t => t < n ∧ t ∉ W)
  ·apply Classical.byContradiction
   intro hno
   have hall : ∀ t, t < n → t ∈ W := fun t ht => Classical.byContradiction fun hq => hno ⟨t, ht, hq⟩
   have := (List.nodup_range (n := n)).length_le_of_subset (fun t ht => hall t (List.mem_range.1 ht))
   simp at this; omega
  ·rintro t ⟨ht, htw⟩
   have hd : D t ≠ 0 := fun hq => htw ((h.zero t ht).2 hq)
   have hsum := h.sum t ht
   apply Classical.byContradiction
   intro hno
   have hin : ∀ e ∈ E, e.2 = t → e.1 ∈ W := fun e he hq =>
    Classical.byContradiction fun hw => hno ⟨e, he, hq, (hE e he).1, hw⟩
   have hfil : ∀ e : Edge, (X.filter (fun e => e.2 == t)).count e = (E.filter (fun e => e.2 == t)).count e := by
    intro e
    rcases Nat.eq_zero_or_pos ((E.filter (fun e => e.2 == t)).count e) with h0 | hp
    ·rw [h0]
     rcases Nat.eq_zero_or_pos ((X.filter (fun e => e.2 == t)).count e) with h1 | h1
     ·exact h1
     ·have hm := List.mem_filter.1 (List.count_pos_iff.1 h1)
      have he := List.count_pos_iff.1 (Nat.lt_of_lt_of_le (List.count_pos_iff.2 hm.1) (h.le e))
      have := List.count_eq_zero.1 h0
      exact absurd (List.mem_filter.2 ⟨he, hm.2⟩) this
    ·have hm := List.mem_filter.1 (List.count_pos_iff.1 hp)
     rw [List.count_filter (p := fun e : Edge => e.2 == t) hm.2, List.count_filter (p := fun e : Edge => e.2 == t) hm.2, hg e, List.take_length, if_pos (hin e hm.1 (by simpa using hm.2))]
   have hperm := (List.perm_iff_count.2 hfil).length_eq
   simp only [cnt, List.countP_eq_length_filter] at hsum
   omega
  ·intros; rfl
 ·rw [decide_eq_false hl]
  symm
  have hall := full h.nod h.lt (by omega)
  have hlen := few h.nod h.lt
  refine rounds_none (W := W) ?_ n 0 _ (fun _ _ _ => Nat.zero_le _) (by omega)
  intro e he
  have h1 := hall e.2 (hE e he).2
  have h2 := h.ord e he h1
  exact ⟨h2.1, h2.2, List.idxOf_lt_length_of_mem h1⟩
end Kahn
section
structure RuleL where
 fr : Int
 dst : Int
 gs : List (List Sp)
 eat : Int
 out : List TermL
structure FinL where
 fr : Int
 gs : List (List Sp)
 out : List TermL
structure DescL where
 i : Int
 o : Int
 n : Int
 s : Int
 rules : List RuleL
 fins : List FinL
def LLr (R : Option Addr → List Sp → World → Prop) (A : Option Addr) (O : List (Item Sp)) (W : World) : Prop := Items R A O.length O W ∧ O.length ≤ 9223372036854775807
theorem LLr.below {R : Option Addr → List Sp → World → Prop} (hR : Lasts R) {A : Option Addr} {O : List (Item Sp)} {w w' : World} (h : LLr R A O w) (hb : Below w.heap.size w w') : LLr R A O w' := ⟨Items.below h.1 hR hb, h.2⟩
theorem LLr.at_ {R : Option Addr → List Sp → World → Prop} {A : Option Addr} {L : List (Item Sp)} {W : World} (h : LLr R A L W) {k : Nat} (hk : k < L.length) : ∃ gb off ba bc b, A = some ⟨gb, off, none⟩ ∧ L[k]? = some (ba, bc, b) ∧ (bodies L)[k]? = some b ∧ W.cell? ⟨gb, off + k, none⟩ = some (.slice ba b.length bc) ∧ R ba b W := by
 obtain ⟨gb, off, ba, bc, b, hA, hx, hc, hl⟩ := h.1.at_ hk
 exact ⟨gb, off, ba, bc, b, hA, hx, by unfold bodies; rw [List.getElem?_map, hx]; rfl, hc, hl⟩
theorem LLr.llx {A : Option Addr} {O : List (Item Sp)} {W : World} (h : LLr Lst A O W) : LLx A O W := h
structure RuleI where
 fr : Int
 dst : Int
 ga : Option Addr
 gc : Nat
 gs : List (Item Sp)
 e : Int
 o : OutI
def RuleI.L (r : RuleI) : RuleL := ⟨r.fr, r.dst, bodies r.gs, r.e, r.o.L⟩
def ruleC (r : RuleI) : List Value := [.int .i64 r.fr, .int .i64 r.dst, .slice r.ga r.gs.length r.gc, .int .i64 r.e, .slice r.o.a r.o.l.length r.o.c]
def RuleR (R : Option Addr → List Sp → World → Prop) (r : RuleI) (W : World) : Prop := (I64 r.fr ∧ I64 r.dst ∧ I64 r.e) ∧ LLr R r.ga r.gs W ∧ OutW r.o W
structure FinI where
 fr : Int
 ga : Option Addr
 gc : Nat
 gs : List (Item Sp)
 o : OutI
def FinI.L (r : FinI) : FinL := ⟨r.fr, bodies r.gs, r.o.L⟩
def finC (r : FinI) : List Value := [.int .i64 r.fr, .slice r.ga r.gs.length r.gc, .slice r.o.a r.o.l.length r.o.c]
def FinR (R : Option Addr → List Sp → World → Prop) (r : FinI) (W : World) : Prop := I64 r.fr ∧ LLr R r.ga r.gs W ∧ OutW r.o W
def RulesAt (R : Option Addr → List Sp → World → Prop) (A : Option Addr) (l : List RuleI) (W : World) : Prop := RowsAt 5 ruleC (RuleR R) A l W
def FinsAt (R : Option Addr → List Sp → World → Prop) (A : Option Addr) (l : List FinI) (W : World) : Prop := RowsAt 3 finC (FinR R) A l W
structure DescI where
 i : Int
 o : Int
 n : Int
 s : Int
 ra : Option Addr
 rc : Nat
 rs : List RuleI
 fa : Option Addr
 fc : Nat
 fs : List FinI
def DescI.L (d : DescI) : DescL := ⟨d.i, d.o, d.n, d.s, d.rs.map RuleI.L, d.fs.map FinI.L⟩
structure DescR (R : Option Addr → List Sp → World → Prop) (d : DescI) (W : World) : Prop where
 nums : I64 d.i ∧ I64 d.o ∧ I64 d.n ∧ I64 d.s
 rules : RulesAt R d.ra d.rs W
 fins : FinsAt R d.fa d.fs W
section
variable {R : Option Addr → List Sp → World → Prop}
theorem RuleR.stays (hR : Lasts R) : Stays (RuleR R) := fun r w w' h hb => ⟨h.1, h.2.1.below hR hb, TermsAt.below h.2.2 hb⟩
theorem FinR.stays (hR : Lasts R) : Stays (FinR R) := fun r w w' h hb => ⟨h.1, h.2.1.below hR hb, TermsAt.below h.2.2 hb⟩
theorem RuleR.below (hR : Lasts R) {r : RuleI} {w w' : World} (h : RuleR R r w) (hb : Below w.heap.size w w') : RuleR R r w' := RuleR.stays hR _ _ _ h hb
theorem FinR.below (hR : Lasts R) {r : FinI} {w w' : World} (h : FinR R r w) (hb : Below w.heap.size w w') : FinR R r w' := FinR.stays hR _ _ _ h hb
theorem RulesAt.below (hR : Lasts R) {A : Option Addr} {l : List RuleI} {w w' : World} (h : RulesAt R A l w) (hb : Below w.heap.size w w') : RulesAt R A l w' := RowsAt.below h (RuleR.stays hR) hb
theorem FinsAt.below (hR : Lasts R) {A : Option Addr} {l : List FinI} {w w' : World} (h : FinsAt R A l w) (hb : Below w.heap.size w w') : FinsAt R A l w' := RowsAt.below h (FinR.stays hR) hb
theorem DescR.below (hR : Lasts R) {d : DescI} {w w' : World} (h : DescR R d w) (hb : Below w.heap.size w w') : DescR R d w' := ⟨h.nums, h.rules.below hR hb, h.fins.below hR hb⟩
theorem RulesAt.at_ {A : Option Addr} {l : List RuleI} {W : World} (h : RulesAt R A l W) {j : Nat} (hj : j < l.length) : ∃ b off r, A = some ⟨b, off, none⟩ ∧ l[j]? = some r ∧ RuleR R r W ∧
  W.cell? ⟨b, off + j * 5, none⟩ = some (.int .i64 r.fr) ∧ W.cell? ⟨b, off + j * 5 + 1, none⟩ = some (.int .i64 r.dst) ∧ W.cell? ⟨b, off + j * 5 + 2, none⟩ = some (.slice r.ga r.gs.length r.gc) ∧ W.cell? ⟨b, off + j * 5 + 3, none⟩ = some (.int .i64 r.e) ∧
  W.cell? ⟨b, off + j * 5 + 4, none⟩ = some (.slice r.o.a r.o.l.length r.o.c) := by
 obtain ⟨b, off, p, hA, hp, hc, hw⟩ := RowsAt.at_ h (fun _ => rfl) hj
 exact ⟨b, off, p, hA, hp, hw, hc 0 _ rfl, hc 1 _ rfl, hc 2 _ rfl, hc 3 _ rfl, hc 4 _ rfl⟩
theorem FinsAt.at_ {A : Option Addr} {l : List FinI} {W : World} (h : FinsAt R A l W) {j : Nat} (hj : j < l.length) : ∃ b off r, A = some ⟨b, off, none⟩ ∧ l[j]? = some r ∧ FinR R r W ∧
  W.cell? ⟨b, off + j * 3, none⟩ = some (.int .i64 r.fr) ∧ W.cell? ⟨b, off + j * 3 + 1, none⟩ = some (.slice r.ga r.gs.length r.gc) ∧ W.cell? ⟨b, off + j * 3 + 2, none⟩ = some (.slice r.o.a r.o.l.length r.o.c) := by
 obtain ⟨b, off, p, hA, hp, hc, hw⟩ := RowsAt.at_ h (fun _ => rfl) hj
 exact ⟨b, off, p, hA, hp, hw, hc 0 _ rfl, hc 1 _ rfl, hc 2 _ rfl⟩
end
abbrev RuleW := RuleR Lst
abbrev FinW := FinR Lst
abbrev DescW := DescR Lst
def domL (s : Int) : List Sp := if s = 1 then [(0, 255)] else if s = 2 then [(0, 55295), (57344, 1114111)] else []
def SortOk (s : Int) : Prop := s = 1 ∨ s = 2
theorem domL_plain (s : Int) : Plain (domL s) := by
 unfold domL
 split
 ·simp [Plain, PlainF]
 ·split <;> simp [Plain, PlainF]
theorem domL_nil (s : Int) : domL s = [] ↔ ¬ SortOk s := by
 unfold domL SortOk
 split
 ·rename_i h; simp [h]
 ·split
  ·rename_i h; simp [h]
  ·rename_i h1 h2; simp [h1, h2]
def InD (s x : Int) : Prop := InS (domL s) x
theorem inD_iff (s x : Int) : InD s x ↔ ((s = 1 ∧ 0 ≤ x ∧ x ≤ 255) ∨ (s = 2 ∧ ((0 ≤ x ∧ x ≤ 55295) ∨ (57344 ≤ x ∧ x ≤ 1114111)))) := by
 unfold InD domL
 split
 ·rename_i h; simp [h, InS]
 ·split
  ·rename_i h; simp [h, InS]
  ·rename_i h1 h2; simp [h1, h2, InS]
theorem inD_mem (s x : Int) : Mem (domL s) x ↔ InD s x := (domL_plain s).mem x
def StateOk (n s : Int) : Prop := 0 ≤ s ∧ s < n
def HeadOk (d : DescL) : Prop := SortOk d.i ∧ SortOk d.o ∧ 1 ≤ d.n ∧ d.n ≤ 1024 ∧ StateOk d.n d.s ∧ d.rules.length ≤ 4096 ∧ d.fins.length ≤ 4096
def GuardOk (i : Int) (g : List Sp) : Prop := g ≠ [] ∧ g.length ≤ 64 ∧ Plain g ∧ ∀ x, Mem g x → InD i x
def GuardsOk (i : Int) (gs : List (List Sp)) : Prop := gs.length ≤ 4 ∧ ∀ g ∈ gs, GuardOk i g
def WholeP (p : PartL) : Prop := p.2.1 = 0 ∧ p.2.2.1 = 21 ∧ p.2.2.2 = 0
def PlainT (t : TermL) : Prop := t.base = 0 ∧ t.drop = 0 ∧ t.take = 21 ∧ t.up = 0
def TermRt (i o : Int) (n : Nat) (t : TermL) : Prop :=
 SortOk i ∧ SortOk o ∧ NumsOk t ∧ (∀ p ∈ t.parts, PartOk n p ∧ (i = 2 → WholeP p)) ∧ (i = 2 → t.parts.length ≤ 1) ∧ (o = 2 → PlainT t)
def WinG (gs : List (List Sp)) (w : List Int) : Prop := hitM gs w ∧ WinOk w
def FitsP (i o : Int) (gs : List (List Sp)) (t : TermL) : Prop := TermRt i o gs.length t ∧ ∀ w, WinG gs w → ValOk t w ∧ InD o (valN t w)
def WritesOk (i o : Int) (gs : List (List Sp)) (out : List TermL) : Prop := out.length ≤ 64 ∧ ∀ t ∈ out, FitsP i o gs t
def RuleOk (d : DescL) (r : RuleL) : Prop := StateOk d.n r.fr ∧ StateOk d.n r.dst ∧ GuardsOk d.i r.gs ∧ min (r.gs.length : Int) 1 ≤ r.eat ∧ r.eat ≤ r.gs.length ∧ WritesOk d.i d.o r.gs r.out
def FinOk (d : DescL) (f : FinL) : Prop := StateOk d.n f.fr ∧ GuardsOk d.i f.gs ∧ WritesOk d.i d.o f.gs f.out
def epsE (l : List RuleL) : List Kahn.Edge := (l.filter fun r => r.gs.isEmpty).map fun r => (r.fr.toNat, r.dst.toNat)
def CycP (d : DescL) : Prop := Kahn.cyc (epsE d.rules) d.n.toNat = true
structure DescOk (d : DescL) : Prop where
 head : HeadOk d
 rules : ∀ r ∈ d.rules, RuleOk d r
 fins : ∀ f ∈ d.fins, FinOk d f
 cyc : ¬ CycP d
def FreeP (d : DescL) : Prop := ∀ r ∈ d.rules, r.gs ≠ []
end
section
theorem DomX_any (s : Int) (w : World) : Calls Tryz.prog 54 #[.int .i64 s] w (NewSpans w (domL s)) := by
 unfold domL
 by_cases h1 : s = 1
 ·rw [if_pos h1]
  subst h1
  go_enter Tryz.func54, Tryz.ntmps54
  go_wp2
  go_ret
  exact NewSpans.lit (by simp) _ 1 rfl _ rfl
 ·rw [if_neg h1]
  have g1 : (s == 1) = false := by simpa using h1
  by_cases h2 : s = 2
  ·rw [if_pos h2]
   subst h2
   clear h1
   go_enter Tryz.func54, Tryz.ntmps54
   go_wp2
   go_ret
   exact NewSpans.lit (by simp) _ 2 rfl _ rfl
  ·rw [if_neg h2]
   have g2 : (s == 2) = false := by simpa using h2
   clear h1 h2
   go_enter Tryz.func54, Tryz.ntmps54
   go_wp2
   go_ret
   exact NewSpans.nil_ w
section
variable {w0 w : World} {F : World → Prop} {A B : Option Addr} {a b : List Sp}
theorem DomX_st (hK : Hid (St w0 w F)) (s : Int) : Calls Tryz.prog 54 #[.int .i64 s] w (RetL w0 (domL s) F) :=
 (DomX_any s w).mono fun e w1 h => retL_new hK (domL_plain s) h
theorem Within_p (hK : Hid (St w0 w F)) (ha : ∀ W, F W → Lst A a W) (hb : ∀ W, F W → Lst B b W) (c d : Nat) (v : Bool) (hv : Hid (pB (∀ x, Mem a x → Mem b x) = v)) :
  Calls Tryz.prog 189 #[.slice A a.length c, .slice B b.length d] w (RetV w0 (.bool v) F) := by
 obtain ⟨r, hr⟩ := rep_minus a b
 refine Within_st hK ha hb c d hr (v := v) ?_
 rw [← hv.out, Bool.eq_iff_iff, decide_eq_true_iff, pB_iff]
 constructor
 ·rintro rfl x hx
  apply Classical.byContradiction
  intro hn
  exact rep_nil hr.out x ⟨hx, hn⟩
 ·intro h
  rcases r with _ | ⟨p, r⟩
  ·rfl
  ·have hp := hr.out.1
   have := (hr.out.2 p.1).1 (.inl ⟨Int.le_refl _, hp.2.1⟩)
   exact absurd (h _ this.1) this.2
theorem Meets_p (hK : Hid (St w0 w F)) (ha : ∀ W, F W → Lst A a W) (hb : ∀ W, F W → Lst B b W) (c d : Nat) (v : Bool) (hv : Hid (pB (∃ x, Mem a x ∧ Mem b x) = v)) :
  Calls Tryz.prog 225 #[.slice A a.length c, .slice B b.length d] w (RetV w0 (.bool v) F) := by
 obtain ⟨r, hr⟩ := rep_meet a b
 refine Meets_st hK ha hb c d hr (v := v) ?_
 rw [← hv.out, Bool.eq_iff_iff, pB_iff]
 constructor
 ·intro h
  rcases r with _ | ⟨p, r⟩
  ·simp at h
  ·have hp := hr.out.1
   exact ⟨p.1, (hr.out.2 p.1).1 (.inl ⟨Int.le_refl _, hp.2.1⟩)⟩
 ·rintro ⟨x, hx⟩
  have := rep_ne hr.out hx
  simpa using this
def GuardsTo (i : Int) (gs : List (List Sp)) (k : Nat) : Prop := ∀ g ∈ gs.take k, GuardOk i g
theorem guards_st (hK : Hid (St w0 w F)) (i : Int) {O : List (Item Sp)} (ha : ∀ W, F W → LLx A O W) (c : Nat) (v : Bool) (hv : Hid (pB (GuardsOk i (bodies O)) = v)) :
  Calls Tryz.prog 152 #[.int .i64 i, .slice A O.length c] w (RetV w0 (.bool v) F) := by
 have HA := Lh ha
 clear ha
 by_cases h4 : O.length ≤ 4
 case neg =>
  have h4' : ¬ (O.length : Int) ≤ 4 := by omega
  obtain rfl := pB_f hv (fun h => h4 (by have := h.1; rwa [bodies_length] at this))
  go_enter Tryz.func152, Tryz.ntmps152
  go_wp2_with fail
  go_ret
  exact ⟨rfl, hK⟩
 have h4' : (O.length : Int) ≤ 4 := by omega
 go_enter Tryz.func152, Tryz.ntmps152
 go_wp2_with fail
 refine (DomX_st hK i).mono ?_
 rintro e w1 ⟨A1, c1, rfl, HK1⟩
 go_wp2_with fail
 go_loopw [15] (fun iv wr => ∃ k : Nat, k ≤ O.length ∧ iv = .int .i64 k ∧ Hid (GuardsTo i (bodies O) k) ∧ Hid (St w0 wr (fun W => Lst A1 (domL i) W ∧ F W))) (fun iv _ => O.length - (intOf iv).toNat)
 case atStart => exact ⟨0, Nat.zero_le _, rfl, Lh (fun g hg => by simp at hg), HK1⟩
 case round =>
 clear HK1
 obtain ⟨k, hk, rfl, HR, HK⟩ := hrel
 by_cases hlt : k < O.length
 ·obtain ⟨gb, off, ba, bc, b, rfl, _, hb, hc, hl⟩ := (HA.out _ HK.out.now.2).at_ hlt
  have HX := Lh hb
  have hbl := hl.len
  have HKi := Lh (HK.out.add (Below.refl _ _) (G := Lst ba b) (fun W hW => hl.below hW))
  have HBAD : ¬ GuardOk i b → v = false := fun h => pB_f hv (fun g => h (g.2 b (List.mem_of_getElem? HX.out)))
  have HRES := Lh (fun W (h : Hid (St w0 W (fun W => Lst ba b W ∧ Lst A1 (domL i) W ∧ F W))) => (Lh (h.out.weaken fun _ h => h.2.2) : Hid (St w0 W F)))
  clear hb hl
  by_cases g1 : b.length = 0
  ·have g1' : ((b.length : Int) == 0) = true := by rw [g1]; rfl
   obtain rfl := HBAD fun h => h.1 (List.length_eq_zero_iff.1 g1)
   clear HBAD g1
   go_wp2_with fail
   go_ret
   exact ⟨rfl, HRES.out _ HKi⟩
  have g1' : ((b.length : Int) == 0) = false := by rw [beq_eq_false_iff_ne]; omega
  by_cases g2 : b.length ≤ 64
  case neg =>
   have g2' : ¬ (b.length : Int) ≤ 64 := by omega
   obtain rfl := HBAD fun h => g2 h.2.1
   clear HBAD g1
   go_wp2_with fail
   go_ret
   exact ⟨rfl, HRES.out _ HKi⟩
  have g2' : (b.length : Int) ≤ 64 := by omega
  rcases hp : plainB (-1073741826) b with _ | _
  ·obtain rfl := HBAD fun h => by have := (plainB_iff _ _).2 (show PlainF (-1073741826) b from h.2.2.1); rw [hp] at this; cases this
   have HP := Lh hp
   clear HBAD g1 hp
   go_wp2_with fail
   refine (Check_st HKi (fun _ h => h.1) bc HP.out).mono ?_
   rintro e w3 ⟨rfl, HK3⟩
   go_wp2_with fail
   go_ret
   exact ⟨rfl, HRES.out _ HK3⟩
  have HP := Lh hp
  by_cases g4 : ∀ x, Mem b x → Mem (domL i) x
  case neg =>
   obtain rfl := HBAD fun h => g4 fun x hx => (inD_mem i x).2 (h.2.2.2 x hx)
   have HW := Lh (pB_false g4)
   clear HBAD g1 hp g4
   go_wp2_with fail
   refine (Check_st HKi (fun _ h => h.1) bc HP.out).mono ?_
   rintro e w3 ⟨rfl, HK3⟩
   go_wp2_with fail
   refine (Within_p HK3 (fun _ h => h.1) (fun _ h => h.2.1) bc c1 false HW).mono ?_
   rintro e w4 ⟨rfl, HK4⟩
   go_wp2_with fail
   go_ret
   exact ⟨rfl, HRES.out _ HK4⟩
  have HW := Lh (pB_true g4)
  have HN : Hid (GuardsTo i (bodies O) (k + 1)) := Lh fun q hq => by
   rw [take_snoc? HX.out] at hq
   rcases List.mem_append.1 hq with hq | hq
   ·exact HR.out q hq
   ·simp at hq; subst hq
    exact ⟨fun h => g1 (by rw [h]; rfl), g2, (plainB_iff _ _).1 hp, fun x hx => (inD_mem i x).1 (g4 x hx)⟩
  clear HBAD g1 hp g4
  go_wp2_with fail
  refine (Check_st HKi (fun _ h => h.1) bc HP.out).mono ?_
  rintro e w3 ⟨rfl, HK3⟩
  go_wp2_with fail
  refine (Within_p HK3 (fun _ h => h.1) (fun _ h => h.2.1) bc c1 true HW).mono ?_
  rintro e w4 ⟨rfl, HK4⟩
  go_wp2_with fail
  go_roundw
  case rel => exact ⟨k + 1, by omega, by go_num, HN, Lh (HK4.out.weaken fun _ h => h.2)⟩
  case measure => simp [intOf]; omega
 ·obtain rfl : k = O.length := by omega
  have hd : decide (O.length < O.length) = false := by simp
  obtain rfl := pB_t hv ⟨by rw [bodies_length]; omega, by have := HR.out; unfold GuardsTo at this; rwa [List.take_of_length_le (by rw [bodies_length]; omega)] at this⟩
  go_wp2_with fail
  go_ret
  exact ⟨rfl, Lh (HK.out.weaken fun _ h => h.2)⟩
end
end
section
open Go.RowKit Go.ChangeMaps Go.MapKept Go.WideShapes
open Go.WideElems (Fit rd rg pl rd_key rd_val rg_of)
open Go.Maps (Keyed)
def R0 (_ : Value) : Option (DataW Unit × List MemPlace) := some (.nil, [])
def mkey (e : MapEntry) : Value × Value := (e.key, e.val)
def MapIs (P : Program) (kt : TypeId) (b : Nat) (M : List (Value × Value)) (w : World) : Prop :=
 ∃ es clock, w.heap[b]? = some (.map es clock) ∧ Fit P kt R0 es clock ∧ (M.map (·.1)).Nodup ∧ ∀ p, p ∈ M ↔ ∃ e ∈ es.toList, mkey e = p
def MapRng (P : Program) (kt : TypeId) (b r : Nat) (R : List (Value × Value)) (w : World) : Prop :=
 ∃ es clock since seen c0, w.heap[b]? = some (.map es clock) ∧ Fit P kt R0 es clock ∧ w.heap[r]? = some (.mapIter (some b) since seen c0) ∧ (∀ x ∈ es.toList, x.born < since) ∧ since ≤ c0 ∧ since ≤ clock ∧
  (R.map (·.1)).Nodup ∧ ∀ p, p ∈ R ↔ ∃ e ∈ es.toList, seen.contains e.born = false ∧ mkey e = p
noncomputable def mapPut (M : List (Value × Value)) (k v : Value) : List (Value × Value) := by classical exact (k, v) :: M.filter fun p => decide (p.1 ≠ k)
section
variable {P : Program} {kt : TypeId} {w w' : World} {b r : Nat} {M R : List (Value × Value)}
theorem MapIs.lt (h : MapIs P kt b M w) : b < w.heap.size := by
 obtain ⟨es, clock, hb, _⟩ := h
 exact (Array.getElem?_eq_some_iff.1 hb).1
theorem MapIs.same (h : MapIs P kt b M w) (hb : w'.heap[b]? = w.heap[b]?) : MapIs P kt b M w' := by
 obtain ⟨es, clock, h1, h2⟩ := h
 exact ⟨es, clock, hb.trans h1, h2⟩
theorem MapIs.made (w : World) : MapIs P kt w.heap.size [] (w.alloc (.map #[] 0)) :=
 ⟨#[], 0, (MapKept.heap_alloc w _).1, ⟨by simp, stamped_empty 0, by simp⟩, List.nodup_nil, by simp⟩
theorem nodup_of_map {α β : Type} (f : α → β) {l : List α} (h : (l.map f).Nodup) : l.Nodup := by
 unfold List.Nodup at *
 rw [List.pairwise_map] at h
 exact h.imp fun h e => h (by rw [e])
theorem fit_nodup {es : Array MapEntry} {clock : Nat} (F : Fit P kt R0 es clock) : (es.toList.map (·.key)).Nodup := by
 have := ((stamped_iff es clock).1 F.stamped).2.2
 unfold List.Nodup
 rw [List.pairwise_map]
 exact this
theorem fit_inj {es : Array MapEntry} {clock : Nat} (F : Fit P kt R0 es clock) {x y : MapEntry} (hx : x ∈ es.toList) (hy : y ∈ es.toList) (h : x.key = y.key) : x = y :=
 entry_eq_of_key ((stamped_iff es clock).1 F.stamped).2.2 hx hy h
theorem MapIs.perm (h : MapIs P kt b M w) : ∃ es clock, w.heap[b]? = some (.map es clock) ∧ M.length = es.size := by
 obtain ⟨es, clock, h1, F, h3, h4⟩ := h
 refine ⟨es, clock, h1, ?_⟩
 have hn : (es.toList.map mkey).Nodup := by
  have := fit_nodup F
  refine nodup_of_map Prod.fst ?_
  rw [List.map_map]; exact this
 have hp : M.Perm (es.toList.map mkey) := (List.perm_ext_iff_of_nodup (nodup_of_map _ h3) hn).2 fun p => by rw [h4, List.mem_map]
 rw [hp.length_eq]; simp
theorem MapIs.len {t e ty : TypeId} (h : MapIs P kt b M w) (ht : P.underlying t = some (.map kt e)) : (Builtin.len_ #[t] ty #[.map (some b)]).run P w = .ok (.int .i64 M.length) w := by
 obtain ⟨es, clock, hb, hl⟩ := h.perm
 rw [hl]
 simp [Builtin.len_, run_underlying ht, MapKept.run_getObj_map hb, goInt, Result.andThen]
theorem MapIs.look {t e : TypeId} (c : Bool) (h : MapIs P kt b M w) (K : Keyed P kt) (ht : P.underlying t = some (.map kt e)) {z : Value} (hz : (zeroValue e).run P w = .ok z w) {key : Value} {kl : Lit} (hkey : keyOf P kt key = some kl) :
  ((∀ p ∈ M, p.1 ≠ key) ∧ (Instr.lookup t (.map (some b)) key c).run P w = .ok (if c then .tuple #[z, .bool false] else z) w) ∨
  ∃ v, (key, v) ∈ M ∧ (Instr.lookup t (.map (some b)) key c).run P w = .ok (if c then .tuple #[v, .bool true] else v) w := by
 obtain ⟨es, clock, hb, F, h3, h4⟩ := h
 rcases Maps.fit_look c K ht hz hb F hkey with ⟨hrun, hno, _⟩ | ⟨e0, y, he, hk, hrun, _⟩
 ·refine .inl ⟨fun p hp => ?_, hrun⟩
  obtain ⟨e, he, rfl⟩ := (h4 p).1 hp
  exact hno e he
 ·exact .inr ⟨e0.val, (h4 _).2 ⟨e0, he, by rw [← hk]; rfl⟩, hrun⟩
theorem MapIs.put {t e : TypeId} (h : MapIs P kt b M w) (K : Keyed P kt) (ht : P.underlying t = some (.map kt e)) (hn : M.length < maxLen) {key : Value} (val : Value) {kl : Lit} (hkey : keyOf P kt key = some kl) :
  ∃ w', (Instr.mapUpdate t (.map (some b)) key val).run P w = .ok () w' ∧ MapIs P kt b (mapPut M key val) w' ∧ w.grownBy w' (some b) ∧ w'.heap.size = w.heap.size := by
 obtain ⟨es0, cl0, hb0, hl0⟩ := h.perm
 obtain ⟨es, clock, hb, F, h3, h4⟩ := h
 rw [hb] at hb0
 injection hb0 with hb0
 injection hb0 with hb1 hb2
 subst hb1
 obtain ⟨es', clock', hrun, F', hsort, _, _, hwho⟩ := Maps.fit_store (R' := R0) K ht hb F (by rw [← hl0]; exact hn) (fun _ _ _ _ hz => hz) hkey (val := val) (yv := (.nil, [])) rfl
 have hkeys : ∀ kl', (∃ x ∈ es'.toList, (rg P kt R0 x).1 = kl') ↔ (kl' = kl ∨ ∃ x ∈ es.toList, (rg P kt R0 x).1 = kl' ∧ notKey kl (rg P kt R0 x) = true) := fun kl' => by
  have p1 := sorted_perm (es'.toList.map (rg P kt R0))
  have p2 := sorted_perm (es.toList.map (rg P kt R0))
  constructor
  ·rintro ⟨x, hx, rfl⟩
   have hm := p1.mem_iff.2 (List.mem_map.2 ⟨x, hx, rfl⟩)
   rw [hsort] at hm
   unfold putKey at hm
   rcases List.mem_cons.1 ((insert_perm _ _).mem_iff.1 hm) with hm | hm
   ·exact .inl (by rw [hm])
   ·obtain ⟨hm1, hm2⟩ := List.mem_filter.1 hm
    obtain ⟨y, hy, he⟩ := List.mem_map.1 (p2.mem_iff.1 hm1)
    exact .inr ⟨y, hy, by rw [he], by rw [he]; exact hm2⟩
  ·intro hk
   have : ∃ d, (kl', d) ∈ es'.toList.map (rg P kt R0) := by
    rcases hk with rfl | ⟨x, hx, rfl, hx2⟩
    ·exact ⟨_, p1.mem_iff.1 (by rw [hsort]; unfold putKey; exact (insert_perm _ _).mem_iff.2 (List.mem_cons_self ..))⟩
    ·refine ⟨(rg P kt R0 x).2, p1.mem_iff.1 ?_⟩
     rw [hsort]; unfold putKey
     exact (insert_perm _ _).mem_iff.2 (List.mem_cons_of_mem _ (List.mem_filter.2 ⟨p2.mem_iff.2 (List.mem_map.2 ⟨x, hx, rfl⟩), hx2⟩))
   obtain ⟨d, hd⟩ := this
   obtain ⟨x, hx, he⟩ := List.mem_map.1 hd
   exact ⟨x, hx, by rw [he]⟩
 have hrgk : ∀ {E : Array MapEntry} {c : Nat} (F : Fit P kt R0 E c) x, x ∈ E.toList → keyOf P kt x.key = some (rg P kt R0 x).1 := fun F x hx => by
  obtain ⟨y, hy⟩ := F.reads x hx
  rw [rg_of hy]; exact rd_key hy
 have hold : ∀ x ∈ es.toList, x.key ≠ key → x ∈ es'.toList := fun x hx hne => by
  have hnk : notKey kl (rg P kt R0 x) = true := (Maps.notKey_iff (K.key hkey)).2 fun e => hne (K.inj (hrgk F x hx) (by rw [e]; exact hkey))
  obtain ⟨y, hy, he⟩ := (hkeys _).2 (.inr ⟨x, hx, rfl, hnk⟩)
  have hyk : y.key = x.key := K.inj (hrgk F' y hy) (by rw [he]; exact hrgk F x hx)
  rcases hwho y hy with ⟨h1, _⟩ | ⟨h1, _⟩
  ·rw [← fit_inj F h1 hx hyk]; exact hy
  ·exact absurd (hyk.symm.trans h1) hne
 obtain ⟨y0, hy0, he0⟩ := (hkeys kl).2 (.inl rfl)
 have hy0k : y0.key = key := K.inj (hrgk F' y0 hy0) (by rw [he0]; exact hkey)
 have hy0v : y0.val = val := by
  rcases hwho y0 hy0 with ⟨h1, h2⟩ | ⟨_, h2⟩
  ·exact absurd hy0k h2
  ·exact h2
 refine ⟨_, hrun, ⟨es', clock', heap_setBlock_same hb _, F', ?_, fun p => ?_⟩, ⟨rfl, rfl, rfl, by simp [setBlock], fun i _ hi => heap_setBlock_other hb _ (fun e => hi (by rw [e]))⟩, by simp [setBlock]⟩
 ·unfold mapPut
  rw [List.map_cons, List.nodup_cons]
  refine ⟨fun hm => ?_, h3.sublist (List.Sublist.map _ (List.filter_sublist))⟩
  obtain ⟨p, hp, he⟩ := List.mem_map.1 hm
  have := (List.mem_filter.1 hp).2
  simp at this
  exact this he
 ·unfold mapPut
  rw [List.mem_cons, List.mem_filter]
  constructor
  ·rintro (rfl | ⟨hp, hk⟩)
   ·exact ⟨y0, hy0, by unfold mkey; rw [hy0k, hy0v]⟩
   ·obtain ⟨x, hx, rfl⟩ := (h4 p).1 hp
    exact ⟨x, hold x hx (by classical exact of_decide_eq_true hk), rfl⟩
  ·rintro ⟨x, hx, rfl⟩
   rcases hwho x hx with ⟨h1, h2⟩ | ⟨h1, h2⟩
   ·exact .inr ⟨(h4 _).2 ⟨x, h1, rfl⟩, by classical exact decide_eq_true h2⟩
   ·exact .inl (by unfold mkey; rw [h1, h2])
theorem MapIs.range {t e : TypeId} (h : MapIs P kt b M w) (ht : P.underlying t = some (.map kt e)) :
  (Instr.range t (.map (some b))).run P w = .ok (.pointer (some ⟨w.heap.size, 0, none⟩)) (w.alloc (.mapIter (some b) (h.choose_spec.choose) #[] (h.choose_spec.choose))) ∧ MapRng P kt b w.heap.size M (w.alloc (.mapIter (some b) (h.choose_spec.choose) #[] (h.choose_spec.choose))) := by
 have hlt := h.lt
 obtain ⟨hb, F, h3, h4⟩ := h.choose_spec.choose_spec
 refine ⟨run_range_map w t kt e b _ _ ht hb, h.choose, _, _, #[], _, ((MapKept.heap_alloc w _).2 b hlt).trans hb, F, (MapKept.heap_alloc w _).1, F.stamped.1, Nat.le_refl _, Nat.le_refl _, h3, fun p => ?_⟩
 rw [h4 p]
 simp
theorem MapRng.ne (h : MapRng P kt b r R w) : r ≠ b := by
 obtain ⟨es, clock, since, seen, c0, hb, _, hr, _⟩ := h
 rintro rfl
 rw [hb] at hr; cases hr
theorem MapRng.same (h : MapRng P kt b r R w) (hb : w'.heap[b]? = w.heap[b]?) (hr : w'.heap[r]? = w.heap[r]?) : MapRng P kt b r R w' := by
 obtain ⟨es, clock, since, seen, c0, h1, h2, h3, h4⟩ := h
 exact ⟨es, clock, since, seen, c0, hb.trans h1, h2, hr.trans h3, h4⟩
theorem MapRng.next (h : MapRng P kt b r R w) (ty : TypeId) :
  (R = [] ∧ (Instr.next (.pointer (some ⟨r, 0, none⟩)) false ty).run P w = .ok (.tuple #[.bool false]) w) ∨
  ∃ p R' w', R.Perm (p :: R') ∧ (Instr.next (.pointer (some ⟨r, 0, none⟩)) false ty).run P w = .ok (.tuple #[.bool true, p.1, p.2]) w' ∧ MapRng P kt b r R' w' ∧ w.grownBy w' (some r) ∧ w'.heap.size = w.heap.size ∧
   (Instr.entry (.pointer (some ⟨r, 0, none⟩))).run P w' = .ok (.tuple #[p.1, p.2]) w' := by
 have hne := h.ne
 obtain ⟨es, clock, since, seen, c0, hb, F, hr, hold, hsc, hsk, hnd, hm⟩ := h
 rcases run_next_at (P := P) w ty r b since c0 seen es clock hr hb hold hsc with ⟨h0, hrun⟩ | ⟨e, he, w1, hal, hrun⟩
 ·refine .inl ⟨List.eq_nil_iff_forall_not_mem.2 fun p hp => ?_, hrun⟩
  obtain ⟨x, hx, hs, _⟩ := (hm p).1 hp
  rw [all_seen es seen h0 x hx] at hs
  cases hs
 ·obtain ⟨hem, hes⟩ := mem_left he
  have hr1 : w1.heap[r]? = some (.mapIter (some b) since seen c0) := by rcases hal with rfl | rfl <;> exact hr
  have hb1 : w1.heap[b]? = some (.map es clock) := by rcases hal with rfl | rfl <;> exact hb
  have hset := heap_set (o' := .mapIter (some b) since (seen.push e.born) clock) hr1
  have hb' : (setBlock w1 r (.mapIter (some b) since (seen.push e.born) clock)).heap[b]? = some (.map es clock) := (hset.2 b (fun e1 => hne e1.symm)).trans hb1
  have hst := (stamped_iff es clock).1 F.stamped
  have hpm : mkey e ∈ R := (hm _).2 ⟨e, hem, hes, rfl⟩
  classical
  have hperm := List.perm_cons_erase hpm
  have hnd2 : ((mkey e :: R.erase (mkey e)).map (·.1)).Nodup := (hperm.map (·.1)).nodup_iff.1 hnd
  rw [List.map_cons, List.nodup_cons] at hnd2
  refine .inr ⟨mkey e, R.erase (mkey e), setBlock w1 r (.mapIter (some b) since (seen.push e.born) clock), hperm, hrun, ⟨es, clock, since, seen.push e.born, clock, hb', F, hset.1, hold, hsk, hsk, hnd2.2, fun p => ?_⟩, ?_, ?_,
   run_entry_at _ r b since seen es clock e hset.1 hb' hem hst.2.1⟩
  ·have hRn : R.Nodup := nodup_of_map _ hnd
   rw [hRn.mem_erase_iff, hm p]
   constructor
   ·rintro ⟨hpe, x, hx, hs, rfl⟩
    refine ⟨x, hx, ?_, rfl⟩
    rw [contains_push, hs, Bool.false_or, beq_eq_false_iff_ne]
    intro hbn
    exact hpe (by rw [born_inj hst.2.1 hx hem hbn])
   ·rintro ⟨x, hx, hs, rfl⟩
    rw [contains_push, Bool.or_eq_false_iff, beq_eq_false_iff_ne] at hs
    refine ⟨fun hk => hs.2 ?_, x, hx, hs.1, rfl⟩
    have := fit_inj F hx hem (congrArg Prod.fst hk)
    rw [this]
  ·rcases hal with rfl | rfl <;> exact ⟨rfl, rfl, rfl, by simp [setBlock], fun i _ hi => hset.2 i (fun e1 => hi (by rw [e1]))⟩
  ·rcases hal with rfl | rfl <;> simp [setBlock]
theorem MapIs.rng {t e : TypeId} (h : MapIs P kt b M w) (ht : P.underlying t = some (.map kt e)) :
  ∃ w', (Instr.range t (.map (some b))).run P w = .ok (.pointer (some ⟨w.heap.size, 0, none⟩)) w' ∧ MapRng P kt b w.heap.size M w' ∧ Below w.heap.size w w' ∧ w'.heap.size = w.heap.size + 1 := by
 obtain ⟨h1, h2⟩ := h.range ht
 exact ⟨_, h1, h2, (Below.refl _ _).alloc (Nat.le_refl _) _, by simp⟩
end
end
section
theorem yieldsIf_lookup {P : Program} {ops : Array Oper} {S : World → Prop} {o : Oper} {a : Act} {t : TypeId} {m x : Operand} {mv kv v : Value} (hw : Region.wanted o (yielded ops a.tmps) = true) (hop : o.op = Op.lookup t m x false) (hm : a.eval m = mv) (hx : a.eval x = kv)
  (h : ∀ w, S w → (Instr.lookup t mv kv false).run P w = .ok v w) : YieldsIf P ops S o v a :=
 .inl ⟨hw, fun w hS => by simp [execOp, hop, hm, hx, h w hS, Result.andThen]⟩
theorem wp_mapUpdate {P : Program} {o : Oper} {a : Act} {t : TypeId} {m x y : Operand} {mv kv v : Value} {w w' : World} {K : Act → World → Prop} {Q : Exit → Act → World → Prop} (hop : o.op = Op.mapUpdate t m x y) (hm : a.eval m = mv) (hx : a.eval x = kv) (hy : a.eval y = v)
  (h : (Instr.mapUpdate t mv kv v).run P w = .ok () w') (hK : K (a.put o.dst undef) w') : Oper.wp P o a w K Q := by
 unfold Oper.wp
 simp [execOp, hop, hm, hx, hy, h, Result.andThen]
 exact hK
section
variable {α : Type} {T : TypeId} {size : Nat} {f : α → List Value}
structure MapRw (T : TypeId) (size : Nat) (f : α → List Value) (mb base : Nat) (g : Int → List α) (L : List (Int × Item α)) (W : World) : Prop where
 mp : MapIs Tryz.prog 3 mb (L.map fun x => ((.int .i64 x.1 : Value), ival x.2)) W
 sets : ∀ x ∈ L, W.ownsRow base T size (.slice x.2.1 x.2.2.2.length x.2.2.1) x.2.2.2.length (x.2.2.2.flatMap f)
 apart : ∀ x ∈ L, ∀ y ∈ L, x.1 ≠ y.1 → ∀ k, ownA x.2.1 = some k → ownA y.2.1 ≠ some k
 val : ∀ x ∈ L, x.2.2.2 = g x.1
 none : ∀ n, (∀ x ∈ L, x.1 ≠ n) → g n = []
variable {mb base : Nat} {g : Int → List α} {L : List (Int × Item α)} {W W' : World}
theorem MapRw.start (W : World) (base : Nat) : MapRw T size f W.heap.size base (fun _ => []) [] (W.alloc (.map #[] 0)) :=
 ⟨MapIs.made W, fun x hx => (by cases hx), fun x hx => (by cases hx), fun x hx => (by cases hx), fun _ _ => rfl⟩
theorem MapRw.keep (h : MapRw T size f mb base g L W) (hk : ∀ k, (k = mb ∨ base ≤ k) → k < W.heap.size → W'.heap[k]? = W.heap[k]?) : MapRw T size f mb base g L W' :=
 ⟨h.mp.same (hk mb (.inl rfl) h.mp.lt), fun x hx => own_keep (h.sets x hx) fun k hA => hk k (.inr (own_ty (h.sets x hx) hA).1) (own_ty (h.sets x hx) hA).2.1, h.apart, h.val, h.none⟩
theorem MapRw.below (h : MapRw T size f mb base g L W) (hb : Below W.heap.size W W') : MapRw T size f mb base g L W' := h.keep fun k _ hl => hb.block k hl
theorem mapRw_keys {P : Program} {kt : TypeId} {w : World} (h : MapIs P kt mb (L.map fun x => ((.int .i64 x.1 : Value), ival x.2)) w) : (L.map (·.1)).Nodup := by
 obtain ⟨es, clock, _, _, h3, _⟩ := h
 rw [List.map_map] at h3
 unfold List.Nodup at *
 rw [List.pairwise_map] at *
 exact h3.imp fun {a b} h e => h (congrArg (Value.int .i64) e)
theorem nodup_fst {α β : Type} {L : List (α × β)} (h : (L.map (·.1)).Nodup) {x y : α × β} (hx : x ∈ L) (hy : y ∈ L) (e : x.1 = y.1) : x = y := by
 induction L with
 | nil => cases hx
 | cons z L ih =>
  rw [List.map_cons, List.nodup_cons] at h
  rcases List.mem_cons.1 hx with hx1 | hx1
  ·rcases List.mem_cons.1 hy with hy1 | hy1
   ·rw [hx1, hy1]
   ·exact absurd (List.mem_map.2 ⟨y, hy1, by rw [← e, hx1]⟩) h.1
  ·rcases List.mem_cons.1 hy with hy1 | hy1
   ·exact absurd (List.mem_map.2 ⟨x, hx1, by rw [e, hy1]⟩) h.1
   ·exact ih h.2 hx1 hy1
theorem MapRw.look {mt et : TypeId} (h : MapRw T size f mb base g L W) {n : Int} (hn : I64 n) (hmt : Tryz.prog.underlying mt = some (.map 3 et)) (hz : ∀ W : World, (zeroValue et).run Tryz.prog W = .ok (.slice Option.none 0 0) W) :
  ∃ A c, ((∃ y ∈ L, y = (n, (A, c, g n))) ∨ ((∀ y ∈ L, y.1 ≠ n) ∧ A = Option.none ∧ c = 0 ∧ g n = [])) ∧ W.ownsRow base T size (.slice A (g n).length c) (g n).length ((g n).flatMap f) ∧
   ∀ W', W'.heap[mb]? = W.heap[mb]? → (Instr.lookup mt (.map (some mb)) (.int .i64 n) false).run Tryz.prog W' = .ok (.slice A (g n).length c) W' := by
 have hwf : (Lit.int .i64 n).wf = true := by
  unfold I64 at hn
  simp [Lit.wf, IntKind.min, IntKind.max, IntKind.signed, IntKind.bits]; omega
 have hk : keyOf Tryz.prog 3 (.int .i64 n) = some (.int .i64 n) := Maps.keyOf_int_mk Tryz.underlying3 hwf
 by_cases hex : ∃ y ∈ L, y.1 = n
 ·obtain ⟨⟨n', A, c, l⟩, hy, rfl⟩ := hex
  have hl : l = g n' := h.val _ hy
  subst hl
  refine ⟨A, c, .inl ⟨_, hy, rfl⟩, h.sets _ hy, fun W' hW => ?_⟩
  rcases (h.mp.same hW).look false (Maps.int_keyed Tryz.underlying3) hmt (hz W') hk with ⟨hno, _⟩ | ⟨v, hv, hrun⟩
  ·exact absurd rfl (hno _ (List.mem_map.2 ⟨_, hy, rfl⟩))
  ·obtain ⟨z, hz, hze⟩ := List.mem_map.1 hv
   have h1 : z.1 = n' := by have := congrArg Prod.fst hze; simpa using this
   obtain rfl := nodup_fst (mapRw_keys h.mp) hz hy h1
   have h2 : ival (A, c, g n') = v := congrArg Prod.snd hze
   rw [hrun, ← h2]; rfl
 ·have hno : ∀ y ∈ L, y.1 ≠ n := fun y hy e => hex ⟨y, hy, e⟩
  have hg := h.none n hno
  refine ⟨Option.none, 0, .inr ⟨hno, rfl, rfl, hg⟩, by rw [hg]; exact World.ownsRow_nil _ _ _ _, fun W' hW => ?_⟩
  rw [hg]
  rcases (h.mp.same hW).look false (Maps.int_keyed Tryz.underlying3) hmt (hz W') hk with ⟨_, hrun⟩ | ⟨v, hv, _⟩
  ·rw [hrun]; rfl
  ·obtain ⟨z, hz, hze⟩ := List.mem_map.1 hv
   have h1 : z.1 = n := by have := congrArg Prod.fst hze; simpa using this
   exact absurd h1 (hno z hz)
def putG (g : Int → List α) (n : Int) (x : α) : Int → List α := fun m => if m = n then g n ++ [x] else g m
theorem mapPut_rw (L : List (Int × Item α)) (n : Int) (s : Item α) : mapPut (L.map fun x => ((.int .i64 x.1 : Value), ival x.2)) (.int .i64 n) (ival s) = ((n, s) :: L.filter fun x => decide (x.1 ≠ n)).map fun x => ((.int .i64 x.1 : Value), ival x.2) := by
 classical
 unfold mapPut
 rw [List.map_cons]
 congr 1
 rw [List.filter_map]
 congr 1
 refine List.filter_congr fun x _ => ?_
 show decide _ = decide _
 rw [decide_eq_decide]
 simp
theorem MapRw.step {W7 W8 W9 : World} {ob : Obj} {A A' : Option Addr} {c c' : Nat} {x : α} {n : Int} (h : MapRw T size f mb base g L W) (hmb : mb < base) (hbW : base ≤ W.heap.size)
  (h7 : Below W.heap.size W W7) (hl : (∃ y ∈ L, y = (n, (A, c, g n))) ∨ ((∀ y ∈ L, y.1 ≠ n) ∧ A = Option.none ∧ c = 0 ∧ g n = []))
  (HO : W8.ownsRow base T size (.slice A' ((g n).length + 1) c') ((g n).length + 1) ((g n).flatMap f ++ f x)) (HG : (W7.alloc ob).grownBy W8 (ownA A)) (HN : Newer (ownA A) (ownA A') (W7.heap.size + 1))
  (hM : MapIs Tryz.prog 3 mb (mapPut (L.map fun x => ((.int .i64 x.1 : Value), ival x.2)) (.int .i64 n) (ival ((A', c', g n ++ [x]) : Item α))) W9) (hG9 : W8.grownBy W9 (some mb)) :
  ∃ L', MapRw T size f mb base (putG g n x) L' W9 ∧ (∀ k, k < base → k ≠ mb → W9.heap[k]? = W.heap[k]?) ∧ W.heap.size ≤ W9.heap.size ∧ (∀ B, B ≤ mb → B ≤ W.heap.size → Below B W W9) ∧ L'.length ≤ L.length + 1 := by
 have hs7 := h7.size
 have hs8 : W7.heap.size + 1 ≤ W8.heap.size := by have := HG.size; simp at this; omega
 have hs9 := hG9.size
 have hAow : ∀ k, ownA A = some k → (∃ y ∈ L, ownA y.2.1 = some k ∧ y.1 = n) ∧ base ≤ k ∧ k < W.heap.size := fun k hk => by
  rcases hl with ⟨y, hy, rfl⟩ | ⟨_, rfl, _⟩
  ·exact ⟨⟨_, hy, hk, rfl⟩, (h.sets _ hy).lt k (by rw [own_ownA]; exact hk)⟩
  ·cases hk
 have hold : ∀ k, k < W.heap.size → ownA A ≠ some k → W8.heap[k]? = W.heap[k]? := fun k hk hA =>
  (HG.block k (by simp; omega) (fun e => hA e.symm)).trans ((Below.heap_alloc _ _ _ (by omega)).trans (h7.block k hk))
 have hold9 : ∀ k, k < W.heap.size → ownA A ≠ some k → k ≠ mb → W9.heap[k]? = W.heap[k]? := fun k hk hA hm => (hG9.block k (by omega) (fun e => hm (by injection e))).trans (hold k hk hA)
 rw [mapPut_rw] at hM
 have hA9 : ∀ k, ownA A' = some k → base ≤ k ∧ k < W8.heap.size := fun k hk => HO.lt k (by rw [own_ownA]; exact hk)
 have hrow9 : W9.ownsRow base T size (.slice A' (g n ++ [x]).length c') (g n ++ [x]).length ((g n ++ [x]).flatMap f) := by
  have e : (g n ++ [x]).length = (g n).length + 1 := by simp
  rw [e, List.flatMap_append]
  simpa using own_keep HO fun k hk => hG9.block k (hA9 k hk).2 (fun e => by injection e with e; have := hA9 k hk; omega)
 refine ⟨(n, (A', c', g n ++ [x])) :: L.filter fun y => decide (y.1 ≠ n), ⟨hM, fun y hy => ?_, ?_, fun y hy => ?_, fun m hm => ?_⟩, fun k hk hkm => hold9 k (by omega) (fun e => by have := hAow k e; omega) hkm, by omega, fun B hB hBW => ?_, ?_⟩
 ·rcases List.mem_cons.1 hy with rfl | hy
  ·exact hrow9
  ·obtain ⟨hy1, hy2⟩ := List.mem_filter.1 hy
   have hyn : y.1 ≠ n := by simpa using hy2
   have hlt := fun k hk => (h.sets y hy1).lt k (by rw [own_ownA]; exact hk)
   refine own_keep (h.sets y hy1) fun k hk => hold9 k (hlt k hk).2 (fun e => ?_) (fun e => by have := hlt k hk; omega)
   obtain ⟨⟨z, hz, hz1, hz2⟩, _⟩ := hAow k e
   exact h.apart z hz y hy1 (fun e => hyn (e ▸ hz2)) k hz1 hk
 ·have key : ∀ y ∈ L, y.1 ≠ n → ∀ k, ownA A' = some k → ownA y.2.1 ≠ some k := fun y hy hyn k hk he => by
   have hlt := (h.sets y hy).lt k (by rw [own_ownA]; exact he)
   rcases HN with e | ⟨q, e, hq⟩
   ·rw [e] at hk
    obtain ⟨⟨z, hz, hz1, hz2⟩, _⟩ := hAow k hk
    exact h.apart z hz y hy (fun e => hyn (e ▸ hz2)) k hz1 he
   ·rw [e] at hk; injection hk with hk; omega
  intro y hy z hz hne k hk he
  rcases List.mem_cons.1 hy with rfl | hy
  ·rcases List.mem_cons.1 hz with rfl | hz
   ·exact hne rfl
   ·obtain ⟨hz1, hz2⟩ := List.mem_filter.1 hz
    exact key z hz1 (by simpa using hz2) k hk he
  ·obtain ⟨hy1, hy2⟩ := List.mem_filter.1 hy
   rcases List.mem_cons.1 hz with rfl | hz
   ·exact key y hy1 (by simpa using hy2) k he hk
   ·exact h.apart y hy1 z (List.mem_filter.1 hz).1 hne k hk he
 ·rcases List.mem_cons.1 hy with rfl | hy
  ·simp [putG]
  ·obtain ⟨hy1, hy2⟩ := List.mem_filter.1 hy
   have hyn : y.1 ≠ n := by simpa using hy2
   rw [h.val y hy1]; simp [putG, hyn]
 ·have hmn : m ≠ n := fun e => hm _ (List.mem_cons_self ..) e.symm
  simp only [putG, hmn, if_false]
  refine h.none m fun y hy e => ?_
  by_cases hyn : y.1 = n
  ·exact hmn (e ▸ hyn)
  ·exact hm y (List.mem_cons_of_mem _ (List.mem_filter.2 ⟨hy, by simpa using hyn⟩)) e
 ·exact ⟨hG9.os.trans (HG.os.trans h7.os), hG9.tape.trans (HG.tape.trans h7.tape), hG9.output.trans (HG.output.trans h7.output), by omega, fun k hk => hold9 k (by omega) (fun e => by have := hAow k e; omega) (by omega)⟩
 ·simp only [List.length_cons]
  have := List.length_filter_le (fun y : Int × Item α => decide (y.1 ≠ n)) L
  omega
end
end
abbrev Place := Int × List Int
def placeC (p : Place) : List Value := [.int .i64 p.1, .int .i64 p.2.length, .int .i64 (p.2.getD 0 0), .int .i64 (p.2.getD 1 0), .int .i64 (p.2.getD 2 0), .int .i64 (p.2.getD 3 0)]
def PlaceOk (p : Place) : Prop := I64 p.1 ∧ p.2.length ≤ 4 ∧ ∀ c ∈ p.2, I64 c
theorem i64_0 : I64 0 := by unfold I64; decide
theorem PlaceOk.at_ {p : Place} (h : PlaceOk p) (i : Nat) : I64 (p.2.getD i 0) := by
 rcases Nat.lt_or_ge i p.2.length with hi | hi
 ·rw [List.getD_eq_getElem?_getD, List.getElem?_eq_getElem hi]
  exact h.2.2 _ (List.getElem_mem _)
 ·rw [List.getD_eq_getElem?_getD, List.getElem?_eq_none hi]
  exact i64_0
def placeV (p : Place) : Value := .agg (placeC p).toArray
theorem i64_wf {x : Int} (h : I64 x) : (Lit.int .i64 x).wf = true := by
 unfold I64 at h
 simp [Lit.wf, IntKind.min, IntKind.max, IntKind.signed, IntKind.bits]; omega
theorem keyLits_i64 (D : Nat) {x : Int} (h : I64 x) : Tryz.prog.keyLits (D + 1) 3 [.int .i64 x] = some [.int .i64 x] := by
 unfold Program.keyLits
 rw [Tryz.underlying3]
 simp [i64_wf h]
theorem keyLits_4 (D : Nat) {a b c d : Int} (ha : I64 a) (hb : I64 b) (hc : I64 c) (hd : I64 d) : Tryz.prog.keyLits (D + 2) 146 [.int .i64 a, .int .i64 b, .int .i64 c, .int .i64 d] = some [.int .i64 a, .int .i64 b, .int .i64 c, .int .i64 d] := by
 have h146 : Tryz.prog.cellsOf 146 = 4 := by kernel_rfl
 have h3 : Tryz.prog.cellsOf 3 = 1 := by kernel_rfl
 unfold Program.keyLits
 rw [Tryz.underlying146]
 simp [h146, h3, List.range_succ, List.mapM_cons, keyLits_i64 D ha, keyLits_i64 D hb, keyLits_i64 D hc, keyLits_i64 D hd]
theorem keyLits_w (D : Nat) {n a b c d : Int} (hn : I64 n) (ha : I64 a) (hb : I64 b) (hc : I64 c) (hd : I64 d) : Tryz.prog.keyLits (D + 3) 148 [.int .i64 n, .int .i64 a, .int .i64 b, .int .i64 c, .int .i64 d] = some [.int .i64 n, .int .i64 a, .int .i64 b, .int .i64 c, .int .i64 d] := by
 have h148 : Tryz.prog.cellsOf 148 = 5 := by kernel_rfl
 have h146 : Tryz.prog.cellsOf 146 = 4 := by kernel_rfl
 have h3 : Tryz.prog.cellsOf 3 = 1 := by kernel_rfl
 unfold Program.keyLits
 rw [Tryz.underlying148]
 simp [h148, h146, h3, List.mapM_cons, keyLits_i64 (D + 1) hn, keyLits_4 D ha hb hc hd]
theorem keyLits_p (D : Nat) {s n a b c d : Int} (hs : I64 s) (hn : I64 n) (ha : I64 a) (hb : I64 b) (hc : I64 c) (hd : I64 d) : Tryz.prog.keyLits (D + 4) 150 [.int .i64 s, .int .i64 n, .int .i64 a, .int .i64 b, .int .i64 c, .int .i64 d] = some [.int .i64 s, .int .i64 n, .int .i64 a, .int .i64 b, .int .i64 c, .int .i64 d] := by
 have h150 : Tryz.prog.cellsOf 150 = 6 := by kernel_rfl
 have h148 : Tryz.prog.cellsOf 148 = 5 := by kernel_rfl
 have h3 : Tryz.prog.cellsOf 3 = 1 := by kernel_rfl
 unfold Program.keyLits
 rw [Tryz.underlying150]
 simp [h150, h148, h3, List.mapM_cons, keyLits_i64 (D + 2) hs, keyLits_w D hn ha hb hc hd]
theorem place_key {p : Place} (h : PlaceOk p) : ∃ kl, keyOf Tryz.prog 150 (placeV p) = some kl := by
 have hkt : Tryz.prog.keyType 150 = true := by kernel_rfl
 have hf : (placeV p).formed Tryz.prog 150 = true := by
  have : ∀ a b c d e f : Value, (Value.agg #[a, b, c, d, e, f]).formed Tryz.prog 150 = true := fun a b c d e f => by kernel_rfl
  exact this _ _ _ _ _ _
 obtain ⟨D, hD⟩ : ∃ D, Tryz.prog.types.size + 1 = D + 4 := ⟨Tryz.prog.types.size - 3, by
  have : 4 ≤ Tryz.prog.types.size := of_decide_eq_true (by kernel_rfl)
  omega⟩
 have hl : I64 (p.2.length : Int) := by unfold I64; have := h.2.1; omega
 have hk := keyLits_p D h.1 hl (h.at_ 0) (h.at_ 1) (h.at_ 2) (h.at_ 3)
 unfold keyOf
 rw [Tryz.underlying150]
 simp only [hkt, hf, Bool.and_self, if_true, hD]
 exact ⟨_, by
  show Option.map _ (Tryz.prog.keyLits (D + 4) 150 [.int .i64 p.1, .int .i64 p.2.length, .int .i64 (p.2.getD 0 0), .int .i64 (p.2.getD 1 0), .int .i64 (p.2.getD 2 0), .int .i64 (p.2.getD 3 0)]) = _
  rw [hk]; rfl⟩
theorem laidOutA : laidOutB Tryz.prog = true := by kernel_rfl
theorem place_keyed : Maps.Keyed Tryz.prog 150 :=
 Maps.Keyed.of_law (deep_law_laid laidOutA (m := 5) (by omega) (of_decide_eq_true (by kernel_rfl)) (by kernel_rfl) (by kernel_rfl))
theorem placeV_inj {p q : Place} (hp : p.2.length ≤ 4) (hq : q.2.length ≤ 4) (h : placeV p = placeV q) : p = q := by
 unfold placeV placeC at h
 injection h with h
 have h := congrArg Array.toList h
 simp only [List.cons.injEq, Value.int.injEq, true_and] at h
 obtain ⟨h1, h2, h3, h4, h5, h6, _⟩ := h
 obtain ⟨s, l⟩ := p
 obtain ⟨s', l'⟩ := q
 simp only at *
 subst h1
 have hl : l.length = l'.length := by omega
 congr 1
 apply List.ext_getElem?
 intro i
 rcases Nat.lt_or_ge i l.length with hi | hi
 ·have hi' : i < l'.length := by omega
  have key : l.getD i 0 = l'.getD i 0 := by
   have : i = 0 ∨ i = 1 ∨ i = 2 ∨ i = 3 := by omega
   rcases this with rfl | rfl | rfl | rfl <;> assumption
  rw [List.getD_eq_getElem?_getD, List.getD_eq_getElem?_getD, List.getElem?_eq_getElem hi, List.getElem?_eq_getElem hi'] at key
  rw [List.getElem?_eq_getElem hi, List.getElem?_eq_getElem hi']
  simpa using key
 ·rw [List.getElem?_eq_none hi, List.getElem?_eq_none (by omega)]
section
theorem guardPartD : Tryz.prog.eqGuardType Tryz.prog.depth 70 = false := by kernel_rfl
theorem eqlPartD (x1 x2 x3 x4 y1 y2 y3 y4 : Int) (b : Bool) (hb : pB (x1 = y1 ∧ x2 = y2 ∧ x3 = y3 ∧ x4 = y4) = b) (w : World) :
  (binOp .eql 70 (.agg #[.int .i64 x1, .int .i64 x2, .int .i64 x3, .int .i64 x4]) (.agg #[.int .i64 y1, .int .i64 y2, .int .i64 y3, .int .i64 y4])).run Tryz.prog w = .ok (.bool b) w := by
 have u3 := Tryz.underlying3
 have a3 := Tryz.isAgg3
 have z3 := Tryz.sizeOf3
 have hS : Tryz.prog.underlying 70 = some (.struct (Tryz.prog.fieldsOf 70)) := by kernel_rfl
 have hp : Tryz.prog.stoodInHeld 70 = false := by kernel_rfl
 rw [run_eql_struct, show (10000 : Nat) = 9999 + 1 from rfl, run_equalIn_agg w 9999 70 _ _ hS hp]
 simp only [Program.fieldsOf, Tryz.underlying70]
 subst hb
 by_cases h1 : x1 = y1
 ·subst h1
  by_cases h2 : x2 = y2
  ·subst h2
   by_cases h3 : x3 = y3
   ·subst h3
    by_cases h4 : x4 = y4
    ·subst h4
     rw [pB_true (p := x1 = x1 ∧ x2 = x2 ∧ x3 = x3 ∧ x4 = x4) ⟨rfl, rfl, rfl, rfl⟩]
     go_simp
    ·rw [pB_false (fun h => h4 h.2.2.2)]
     go_simp
   ·rw [pB_false (fun h => h3 h.2.2.1)]
    go_simp
  ·rw [pB_false (fun h => h2 h.2.1)]
   go_simp
 ·rw [pB_false (fun h => h1 h.1)]
  go_simp
theorem neqPartD (x1 x2 x3 x4 y1 y2 y3 y4 : Int) (b : Bool) (hb : pB (x1 = y1 ∧ x2 = y2 ∧ x3 = y3 ∧ x4 = y4) = b) (w : World) :
  (binOp .neq 70 (.agg #[.int .i64 x1, .int .i64 x2, .int .i64 x3, .int .i64 x4]) (.agg #[.int .i64 y1, .int .i64 y2, .int .i64 y3, .int .i64 y4])).run Tryz.prog w = .ok (.bool (!b)) w := by
 have h := eqlPartD x1 x2 x3 x4 y1 y2 y3 y4 b hb w
 rw [run_eql_struct] at h
 rw [run_neq_struct]
 generalize (Op.equalIn 10000 70 (.agg #[.int .i64 x1, .int .i64 x2, .int .i64 x3, .int .i64 x4]) (.agg #[.int .i64 y1, .int .i64 y2, .int .i64 y3, .int .i64 y4])).run Tryz.prog w = r at h
 cases r with
 | ok a w1 => simp at h; obtain ⟨rfl, rfl⟩ := h; simp
 | halt h1 w1 => simp at h
theorem yielded_undefD {ops : Array Oper} {tmps : Array Value} {j : Nat} (h : ((ops[j]?).bind (·.dst)).bind (tmps[·]?) = some undef) : yielded ops tmps j = none := by
 unfold yielded; rw [h]; rfl
attribute [local go_sem ↓] yielded_undefD
section
variable {w0 w : World} {F : World → Prop} {A : Option Addr} {l : List PartL}
theorem plain_st (hK : Hid (St w0 w F)) (b d t u s : Int) (c : Nat) (v : Bool) (hv : Hid (pB (PlainT ⟨b, d, t, u, s, l⟩) = v)) :
  Calls Tryz.prog 203 #[.agg #[.int .i64 b, .int .i64 d, .int .i64 t, .int .i64 u, .int .i64 s, .slice A l.length c]] w (RetV w0 (.bool v) F) := by
 have HK := St.box hK [.int .i64 b, .int .i64 d, .int .i64 t, .int .i64 u, .int .i64 s, .slice A l.length c] 68
 have hg := guardPartD
 by_cases b0 : b = 0
 case neg =>
  have b0' : (b == 0) = false := by simpa using b0
  obtain rfl := pB_f hv (fun h => b0 h.1)
  go_enter Tryz.func203, Tryz.ntmps203
  go_wp2_with fail
  go_ret
  exact ⟨rfl, Lh (HK.out.weaken fun _ h => h.2)⟩
 subst b0
 have hq : ∀ w, _ := eqlPartD 0 d t u 0 0 21 0 v (by rw [← hv.out]; exact pB_congr ⟨fun h => ⟨rfl, h.2⟩, fun h => ⟨rfl, h.2⟩⟩)
 go_enter Tryz.func203, Tryz.ntmps203
 go_wp2_with fail
 refine (retV_gives HK (outer_any 0 d t u s A l.length c _)).mono ?_
 rintro e w1 ⟨rfl, HK1⟩
 go_wp2_with fail
 refine (retV_gives HK1 (Whole_any 0 _)).mono ?_
 rintro e w2 ⟨rfl, HK2⟩
 go_wp2_with fail
 go_ret
 exact ⟨rfl, Lh (HK2.out.weaken fun _ h => h.2)⟩
def RtP (i : Int) (n : Nat) (p : PartL) : Prop := PartOk n p ∧ (i = 2 → WholeP p)
def RtTo (i : Int) (n : Nat) (l : List PartL) (k : Nat) : Prop := ∀ p ∈ l.take k, RtP i n p
theorem RtTo.next {i : Int} {n : Nat} {k : Nat} {p : PartL} (h : RtTo i n l k) (hx : l[k]? = some p) (hp : RtP i n p) : RtTo i n l (k + 1) := fun q hq => by
 rw [take_snoc? hx] at hq
 rcases List.mem_append.1 hq with hq | hq
 ·exact h q hq
 ·simp at hq; subst hq; exact hp
theorem tRightG_st (hK : Hid (St w0 w F)) (hp : ∀ W, F W → PartsAt A l W) (b d t u s : Int) (c : Nat) (i o : Int) (n : Nat) (v : Bool) (hv : Hid (pB (TermRt i o n ⟨b, d, t, u, s, l⟩) = v)) :
  Calls Tryz.prog 172 #[.agg #[.int .i64 b, .int .i64 d, .int .i64 t, .int .i64 u, .int .i64 s, .slice A l.length c], .int .i64 i, .int .i64 o, .int .i64 n] w (RetV w0 (.bool v) F) := by
 have hln := (hp _ hK.out.now).ln
 have HP := Lh hp
 have HK := St.box hK [.int .i64 b, .int .i64 d, .int .i64 t, .int .i64 u, .int .i64 s, .slice A l.length c] 68
 have hg := guardPartD
 clear hp
 by_cases s1 : SortOk i
 case neg =>
  have h1 : (((domL i).length : Int) == 0) = true := by rw [(domL_nil i).2 s1]; rfl
  obtain rfl := pB_f hv (fun h => s1 h.1)
  clear s1
  go_enter Tryz.func172, Tryz.ntmps172
  go_wp2_with fail
  refine (DomX_st HK i).mono ?_
  rintro e w1 ⟨A1, c1, rfl, HK1⟩
  go_wp2_with fail
  go_ret
  exact ⟨rfl, Lh (HK1.out.weaken fun _ h => h.2.2)⟩
 have h1 : (((domL i).length : Int) == 0) = false := by
  rw [beq_eq_false_iff_ne]
  intro h
  exact (domL_nil i).1 (List.eq_nil_of_length_eq_zero (by omega)) s1
 by_cases s2 : SortOk o
 case neg =>
  have h2 : (((domL o).length : Int) == 0) = true := by rw [(domL_nil o).2 s2]; rfl
  obtain rfl := pB_f hv (fun h => s2 h.2.1)
  clear s1 s2
  go_enter Tryz.func172, Tryz.ntmps172
  go_wp2_with fail
  refine (DomX_st HK i).mono ?_
  rintro e w1 ⟨A1, c1, rfl, HK1⟩
  go_wp2_with fail
  refine (DomX_st HK1 o).mono ?_
  rintro e w2 ⟨A2, c2, rfl, HK2⟩
  go_wp2_with fail
  go_ret
  exact ⟨rfl, Lh (HK2.out.weaken fun _ h => h.2.2.2)⟩
 have h2 : (((domL o).length : Int) == 0) = false := by
  rw [beq_eq_false_iff_ne]
  intro h
  exact (domL_nil o).1 (List.eq_nil_of_length_eq_zero (by omega)) s2
 have HS := Lh (And.intro s1 s2)
 clear s1 s2
 go_enter Tryz.func172, Tryz.ntmps172
 go_wp2_with fail
 refine (DomX_st HK i).mono ?_
 rintro e w1 ⟨A1, c1, rfl, HK1⟩
 go_wp2_with fail
 refine (DomX_st HK1 o).mono ?_
 rintro e w2 ⟨A2, c2, rfl, HK2⟩
 have HK2 : Hid (St w0 w2 (fun W => BoxC w.heap.size [.int .i64 b, .int .i64 d, .int .i64 t, .int .i64 u, .int .i64 s, .slice A l.length c] W ∧ F W)) := Lh (HK2.out.weaken fun _ h => h.2.2)
 obtain ⟨hc0, hc1, hc2, hc3, hc4, hc5⟩ := HK2.out.now.1.c6
 clear h1
 by_cases a1 : NumsOk ⟨b, d, t, u, s, l⟩
 case neg =>
  obtain rfl := pB_f hv (fun h => a1 h.2.2.1)
  have H1 := Lh (pB_false a1)
  clear a1
  go_wp2_with fail
  refine (numbers_st HK2 (fun _ h => HP.out _ h.2) b d t u s c false H1).mono ?_
  rintro e w3 ⟨rfl, HK3⟩
  go_wp2_with fail
  go_ret
  exact ⟨rfl, Lh (HK3.out.weaken fun _ h => h.2)⟩
 have H1 := Lh (pB_true a1)
 have HA := Lh a1
 clear a1
 go_wp2_with fail
 refine (numbers_st HK2 (fun _ h => HP.out _ h.2) b d t u s c true H1).mono ?_
 rintro e w3 ⟨rfl, HK3⟩
 clear hc0 hc1 hc2 hc3 hc4 hc5 h2
 have hc5 := HK3.out.now.1 5 _ rfl
 have h4 : l.length ≤ 4 := HA.out.2.2.2.2
 go_wp2_with fail
 go_loopw [29] (fun iv wr => ∃ k : Nat, k ≤ l.length ∧ iv = .int .i64 k ∧ Hid (RtTo i n l k) ∧ Hid (St w0 wr (fun W => BoxC w.heap.size [.int .i64 b, .int .i64 d, .int .i64 t, .int .i64 u, .int .i64 s, .slice A l.length c] W ∧ F W))) (fun iv _ => l.length - (intOf iv).toNat)
 case atStart => exact ⟨0, Nat.zero_le _, rfl, Lh (fun p hp => by simp at hp), HK3⟩
 case round =>
 clear hc5 HK HK1 HK2 HK3 H1
 obtain ⟨k, hk, rfl, HR, HK⟩ := hrel
 by_cases hlt : k < l.length
 ·obtain ⟨pb, off, p, rfl, hx, hw, hd0, hd1, hd2, hd3⟩ := (HP.out _ HK.out.now.2).at_ hlt
  have hlw := lt_of_cell hd0
  have HKp := St.box HK [.int .i64 p.1, .int .i64 p.2.1, .int .i64 p.2.2.1, .int .i64 p.2.2.2] 70
  obtain ⟨x1, x2, x3, x4⟩ := p
  simp only at hd0 hd1 hd2 hd3 HKp
  have HX := Lh hx
  have HBAD : ¬ RtP i n (x1, x2, x3, x4) → v = false := fun h => pB_f hv (fun g => h (g.2.2.2.1 _ (List.mem_of_getElem? HX.out)))
  clear hx hw
  by_cases a2 : PartOk n (x1, x2, x3, x4)
  case neg =>
   have H2 := Lh (pB_false a2)
   obtain rfl := HBAD (fun h => a2 h.1)
   clear a2 HBAD
   go_wp2_with fail
   have HK := St.hdrewN HKp 1
   first | (go_region_with (go_at_call 183; refine (PRight_st HK x1 x2 x3 x4 n false H2).mono ?_; rintro e w5 ⟨rfl, HK⟩)) | fail
   all_goals (go_wp2_with fail; go_ret; exact ⟨rfl, Lh (HK.out.weaken fun _ h => h.2.2)⟩)
  have H2 := Lh (pB_true a2)
  by_cases i2 : i = 2
  case neg =>
   have i2' : (i == 2) = false := by simpa using i2
   have HN := Lh (HR.out.next HX.out ⟨a2, fun h => absurd h i2⟩)
   clear a2 HBAD i2
   go_wp2_with fail
   have HK := St.hdrewN HKp 1
   first | (go_region_with (go_at_call 183; refine (PRight_st HK x1 x2 x3 x4 n true H2).mono ?_; rintro e w5 ⟨rfl, HK⟩)) | fail
   all_goals (go_wp2_with fail; exact ⟨⟨k + 1, by omega, by go_num, HN, Lh (HK.out.weaken fun _ h => h.2)⟩, by simp [intOf]; omega⟩)
  subst i2
  by_cases a3 : WholeP (x1, x2, x3, x4)
  case neg =>
   obtain rfl := HBAD (fun h => a3 (h.2 rfl))
   have hq := neqPartD x1 x2 x3 x4 x1 0 21 0 false (pB_false fun h => a3 h.2)
   clear a2 a3 HBAD
   go_wp2_with fail
   have HK6 := St.hdrewN HKp 1
   go_region_held3 (fun W => W.cell? ⟨wr.heap.size, 0, none⟩ = some (.int .i64 x1) ∧ W.cell? ⟨wr.heap.size, 1, none⟩ = some (.int .i64 x2) ∧ W.cell? ⟨wr.heap.size, 2, none⟩ = some (.int .i64 x3) ∧ W.cell? ⟨wr.heap.size, 3, none⟩ = some (.int .i64 x4))
    (first | exact HK8.out.now.1.c4 | exact HK7.out.now.1.c4 | exact HK6.out.now.1.c4 | go_keep)
    ((first | (go_at_call 183; refine (PRight_st HK6 x1 x2 x3 x4 n true H2).mono ?_; rintro e7 w7 ⟨rfl, HK7⟩) | (go_at_call 202; refine (retV_gives HK7 (Whole_any x1 _)).mono ?_; rintro e8 w8 ⟨rfl, HK8⟩)))
   go_wp2_with fail
   go_ret
   exact ⟨rfl, Lh (HK8.out.weaken fun _ h => h.2.2)⟩
  have HN := Lh (HR.out.next HX.out ⟨a2, fun h => a3⟩)
  have hq := neqPartD x1 x2 x3 x4 x1 0 21 0 true (pB_true ⟨rfl, a3⟩)
  clear a2 a3 HBAD
  go_wp2_with fail
  have HK6 := St.hdrewN HKp 1
  go_region_held3 (fun W => W.cell? ⟨wr.heap.size, 0, none⟩ = some (.int .i64 x1) ∧ W.cell? ⟨wr.heap.size, 1, none⟩ = some (.int .i64 x2) ∧ W.cell? ⟨wr.heap.size, 2, none⟩ = some (.int .i64 x3) ∧ W.cell? ⟨wr.heap.size, 3, none⟩ = some (.int .i64 x4))
   (first | exact HK8.out.now.1.c4 | exact HK7.out.now.1.c4 | exact HK6.out.now.1.c4 | go_keep)
   ((first | (go_at_call 183; refine (PRight_st HK6 x1 x2 x3 x4 n true H2).mono ?_; rintro e7 w7 ⟨rfl, HK7⟩) | (go_at_call 202; refine (retV_gives HK7 (Whole_any x1 _)).mono ?_; rintro e8 w8 ⟨rfl, HK8⟩)))
  go_wp2_with fail
  go_roundw
  case rel => exact ⟨k + 1, by omega, by go_num, HN, Lh (HK8.out.weaken fun _ h => h.2)⟩
  case measure => simp [intOf]; omega
 ·obtain rfl : k = l.length := by omega
  have hd : decide (l.length < l.length) = false := by simp
  have HRA : Hid (∀ p ∈ l, RtP i n p) := Lh (by have := HR.out; unfold RtTo at this; rwa [List.take_length] at this)
  have hc5 := HK.out.now.1 5 _ rfl
  have HE : Hid (pB ((i = 2 → l.length ≤ 1) ∧ (o = 2 → PlainT ⟨b, d, t, u, s, l⟩)) = v) := by
   unfold Hid
   rw [← hv.out]
   exact pB_congr ⟨fun h => ⟨HS.out.1, HS.out.2, HA.out, HRA.out, h⟩, fun h => h.2.2.2.2⟩
  by_cases i2 : i = 2 ∧ ¬ l.length ≤ 1
  ·obtain ⟨rfl, l1⟩ := i2
   have l1' : ¬ (l.length : Int) ≤ 1 := by omega
   obtain rfl := pB_f HE (fun h => l1 (h.1 rfl))
   go_wp2_with fail
   go_ret
   exact ⟨rfl, Lh (HK.out.weaken fun _ h => h.2)⟩
  have HI : Hid (pB (o = 2 → PlainT ⟨b, d, t, u, s, l⟩) = v) := by
   unfold Hid
   rw [← HE.out]
   exact pB_congr ⟨fun h => ⟨fun e => Nat.le_of_not_lt fun h1 => i2 ⟨e, by omega⟩, h⟩, fun h => h.2⟩
  have hi : (i = 2 ∧ (l.length : Int) ≤ 1) ∨ (i != 2) = true := by
   by_cases e : i = 2
   ·exact .inl ⟨e, by have : l.length ≤ 1 := Nat.le_of_not_lt fun h1 => i2 ⟨e, by omega⟩; omega⟩
   ·exact .inr (by simpa using e)
  clear i2
  by_cases o2 : o = 2
  case neg =>
   have o2' : (o != 2) = true := by simpa using o2
   obtain rfl := pB_t HI (fun h => absurd h o2)
   clear o2
   rcases hi with ⟨rfl, hi⟩ | hi
   ·go_wp2_with fail
    go_ret
    exact ⟨rfl, Lh (HK.out.weaken fun _ h => h.2)⟩
   ·go_wp2_with fail
    go_ret
    exact ⟨rfl, Lh (HK.out.weaken fun _ h => h.2)⟩
  subst o2
  have HPL : Hid (pB (PlainT ⟨b, d, t, u, s, l⟩) = v) := by
   unfold Hid
   rw [← HI.out]
   exact pB_congr ⟨fun h _ => h, fun h => h rfl⟩
  obtain ⟨hc0, hc1, hc2, hc3, hc4, _⟩ := HK.out.now.1.c6
  rcases hi with ⟨rfl, hi⟩ | hi
  ·go_wp2_with fail
   refine (plain_st HK b d t u s c v HPL).mono ?_
   rintro e w4 ⟨rfl, HK4⟩
   go_wp2_with fail
   go_ret
   exact ⟨rfl, Lh (HK4.out.weaken fun _ h => h.2)⟩
  ·go_wp2_with fail
   refine (plain_st HK b d t u s c v HPL).mono ?_
   rintro e w4 ⟨rfl, HK4⟩
   go_wp2_with fail
   go_ret
   exact ⟨rfl, Lh (HK4.out.weaken fun _ h => h.2)⟩
end
end
def InnS (t : TermL) (gs : List (List Sp)) (v : Int) : Prop := ∃ w, WinG gs w ∧ innerT t w = v
def OutS (t : TermL) (gs : List (List Sp)) (y : Int) : Prop := ∃ w, WinG gs w ∧ y = t.base + pval t.drop t.take t.up (innerT t w)
def InRange (t : TermL) (gs : List (List Sp)) : Prop := ∀ v, InnS t gs v → 0 ≤ v ∧ v ≤ 1114111
theorem winG_len {gs : List (List Sp)} {w : List Int} (h : WinG gs w) : gs.length = w.length := hitM_len h.1
theorem innS_bd {t : TermL} (hn : NumsOk t) {gs : List (List Sp)} {v : Int} (h : InnS t gs v) : -1073741824 ≤ v ∧ v ≤ 1073741824 := by
 obtain ⟨w, _, rfl⟩ := h
 have := innerTo_bd hn.2.1 w t.parts.length hn.2.2.2.2
 unfold innerT
 omega
theorem rep_inn {t : TermL} (hn : NumsOk t) (gs : List (List Sp)) : ∃ r, Hid (Rep r (InnS t gs)) := rep_all _ fun v h => innS_bd hn h
noncomputable def symL (g : List Sp) : List Sp := plL fun x => Mem g x ∧ Mem [(0, 1114111)] x
theorem symL_rep (g : List Sp) : Rep (symL g) (fun x => Mem g x ∧ Mem [(0, 1114111)] x) := plL_rep (rep_all _ fun x hx => ⟨hx.1.1, hx.1.2.1⟩)
theorem symL_mem (g : List Sp) (x : Int) : Mem (symL g) x ↔ (Mem g x ∧ 0 ≤ x ∧ x ≤ 1114111) := by
 rw [(symL_rep g).mem]
 constructor
 ·rintro ⟨h1, _, _, h2⟩; exact ⟨h1, by simpa [InS] using h2⟩
 ·rintro ⟨h1, h2⟩; exact ⟨h1, h1.1, h1.2.1, by simpa [InS] using h2⟩
theorem winG_sym (gs : List (List Sp)) (w : List Int) : WinG (gs.map symL) w ↔ WinG gs w := by
 unfold WinG
 rw [hitM_iff, hitM_iff, List.length_map]
 constructor
 ·rintro ⟨⟨h1, h2⟩, h3⟩
  refine ⟨⟨h1, fun k s x hs hx => ?_⟩, h3⟩
  exact ((symL_mem _ _).1 (h2 k (symL s) x (by rw [List.getElem?_map, hs]; rfl) hx)).1
 ·rintro ⟨⟨h1, h2⟩, h3⟩
  refine ⟨⟨h1, fun k s x hs hx => ?_⟩, h3⟩
  rw [List.getElem?_map] at hs
  rcases hg : gs[k]? with _ | g
  ·rw [hg] at hs; cases hs
  ·rw [hg] at hs; injection hs with hs; subst hs
   exact (symL_mem _ _).2 ⟨h2 k g x hg hx, h3 x (List.mem_of_getElem? hx)⟩
theorem innS_sym (t : TermL) (gs : List (List Sp)) (v : Int) : InnS t (gs.map symL) v ↔ InnS t gs v := by
 unfold InnS
 constructor
 ·rintro ⟨w, h1, h2⟩; exact ⟨w, (winG_sym gs w).1 h1, h2⟩
 ·rintro ⟨w, h1, h2⟩; exact ⟨w, (winG_sym gs w).2 h1, h2⟩
theorem win_ex {gs : List (List Sp)} (h : ∀ g ∈ gs, g ≠ [] ∧ Plain g ∧ ∀ x, InS g x → 0 ≤ x ∧ x ≤ 1114111) : ∃ w, WinG gs w := by
 induction gs with
 | nil => exact ⟨[], trivial, fun x hx => by cases hx⟩
 | cons g gs ih =>
  obtain ⟨w, h1, h2⟩ := ih fun q hq => h q (List.mem_cons_of_mem _ hq)
  obtain ⟨hn, hp, hb⟩ := h g (List.mem_cons_self ..)
  obtain ⟨p, l, rfl⟩ := List.exists_cons_of_ne_nil hn
  have hx : InS (p :: l) p.1 := .inl ⟨Int.le_refl _, hp.2.1⟩
  refine ⟨p.1 :: w, ⟨(hp.mem _).2 hx, h1⟩, fun x hx2 => ?_⟩
  rcases List.mem_cons.1 hx2 with rfl | hx2
  ·exact hb _ hx
  ·exact h2 x hx2
theorem win_none {gs : List (List Sp)} {g : List Sp} (hg : g ∈ gs) (h : symL g = []) (w : List Int) : ¬ WinG gs w := by
 rintro ⟨h1, h2⟩
 obtain ⟨hl, h1⟩ := (hitM_iff _ _).1 h1
 obtain ⟨k, hk⟩ := List.getElem?_of_mem hg
 have hkl := (List.getElem?_eq_some_iff.1 hk).1
 have hx := List.getElem?_eq_getElem (l := w) (i := k) (by omega)
 have h3 := (symL_mem g _).2 ⟨h1 k g _ hk hx, h2 _ (List.mem_of_getElem? hx)⟩
 rw [h] at h3
 exact h3.2.2
theorem bitsOk_b {d t u : Int} (h : BitsOk d t u) : bitsB d t u = true := by
 rw [bitsB_iff]
 unfold BitsOk at h
 omega
theorem val_pval {t : TermL} (hb : BitsOk t.drop t.take t.up) {w : List Int} (h0 : 0 ≤ innerT t w) (h1 : innerT t w ≤ 1114111) : valN t w = t.base + pval t.drop t.take t.up (innerT t w) ∧ vOk t.drop t.take t.up (innerT t w) = true := by
 have hv : vOk t.drop t.take t.up (innerT t w) = true := (vOk_iff _ _ _ _).2 ⟨bitsOk_b hb, h0, by omega⟩
 refine ⟨?_, hv⟩
 unfold valN vNum
 rw [if_pos hv]
theorem fits_iff {i o : Int} {gs : List (List Sp)} {t : TermL} (ht : TermRt i o gs.length t) : FitsP i o gs t ↔ (InRange t gs ∧ ∀ y, OutS t gs y → InD o y) := by
 unfold FitsP InRange OutS
 constructor
 ·rintro ⟨_, h⟩
  refine ⟨?_, ?_⟩
  ·rintro v ⟨w, hw, rfl⟩
   have := (h w hw).1
   exact ⟨this.2.2.1, this.2.2.2.1⟩
  ·rintro y ⟨w, hw, rfl⟩
   have h1 := (h w hw).1
   rw [← (val_pval ht.2.2.1.2.2.1 h1.2.2.1 h1.2.2.2.1).1]
   exact (h w hw).2
 ·rintro ⟨h1, h2⟩
  refine ⟨ht, fun w hw => ?_⟩
  have h3 := h1 _ ⟨w, hw, rfl⟩
  have h4 := val_pval ht.2.2.1.2.2.1 h3.1 h3.2
  refine ⟨⟨hw.2, fun p hp => ?_, h3.1, h3.2, h4.2⟩, ?_⟩
  ·rw [← winG_len hw]; exact (ht.2.2.2.1 p hp).1
  ·rw [h4.1]; exact h2 _ ⟨w, hw, rfl⟩
theorem outS_bd {t : TermL} (hn : NumsOk t) {gs : List (List Sp)} {y : Int} (h : OutS t gs y) : -1073741824 ≤ y ∧ y ≤ 1073741824 := by
 obtain ⟨w, _, rfl⟩ := h
 have h1 := pval_bd (bitsOk_b hn.2.2.1) (innerT t w)
 have h2 := hn.1
 unfold SmallN at h2
 omega
theorem inn_one {t : TermL} (hp : t.parts = []) {gs : List (List Sp)} (hw : ∃ w, WinG gs w) (v : Int) : InnS t gs v ↔ v = t.sum := by
 have hi : ∀ w, innerT t w = t.sum := fun w => by simp [innerT, innerTo, hp]
 constructor
 ·rintro ⟨w, _, rfl⟩; exact hi w
 ·rintro rfl
  obtain ⟨w, hw⟩ := hw
  exact ⟨w, hw, hi w⟩
section
def RetLB2 (w0 : World) (r : List Sp) (ok : Bool) (F : World → Prop) (e : Ending) (w' : World) : Prop := ∃ A c, e = .returned (.tuple #[.slice A r.length c, .bool ok]) ∧ Hid (St w0 w' (fun W => Lst A r W ∧ F W))
section
variable {w0 w : World} {F : World → Prop}
theorem values0_st (hK : Hid (St w0 w F)) (b d t u s : Int) (A : Option Addr) (c : Nat) (B : Option Addr) (n cb : Nat) (hs : SmallN s) (ok : Bool) (hok : Hid (pB (0 ≤ s ∧ s ≤ 1114111) = ok)) :
  Calls Tryz.prog 242 #[.agg #[.int .i64 b, .int .i64 d, .int .i64 t, .int .i64 u, .int .i64 s, .slice A 0 c], .slice B n cb] w (RetLB2 w0 [(s, s)] ok F) := by
 have HK := St.box hK [.int .i64 b, .int .i64 d, .int .i64 t, .int .i64 u, .int .i64 s, .slice A 0 c] 68
 have hs1 := hs.1
 have hs2 := hs.2
 have hc5 := HK.out.now.1 5 _ rfl
 have hmm := @run_makeMap Tryz.prog
 go_enter Tryz.func242, Tryz.ntmps242
 go_wp2_with fail
 have HK2 := Lh (HK.out.alloc (.map #[] 0))
 clear hc5
 have hd : decide (0 < 0) = false := by simp
 go_loopw [7, 21] (fun pv iv wr => pv = .slice none 0 0 ∧ iv = .int .i64 0 ∧ Hid (St w0 wr (fun W => BoxC w.heap.size [.int .i64 b, .int .i64 d, .int .i64 t, .int .i64 u, .int .i64 s, .slice A 0 c] W ∧ F W))) (fun _ iv _ => 0)
 case atStart => exact ⟨rfl, rfl, HK2⟩
 case round =>
 clear HK2
 obtain ⟨rfl, rfl, HK2⟩ := hrel
 have hc4 := HK2.out.now.1 4 _ rfl
 go_wp2_with fail
 have HK3 := St.lit HK2 (s, s) (by intro p hp; simp at hp; subst hp; simp; omega)
 clear hc4
 go_loopw [10, 55] (fun ov iv wr2 => ov = .slice (some ⟨wr.heap.size, 0, none⟩) 1 1 ∧ iv = .int .i64 0 ∧ Hid (St w0 wr2 (fun W => Lst (some ⟨wr.heap.size, 0, none⟩) [(s, s)] W ∧ F W))) (fun _ iv _ => 0)
 case atStart => exact ⟨rfl, rfl, Lh (HK3.out.weaken fun _ h => ⟨h.1, h.2.2⟩)⟩
 case round =>
 clear HK3
 obtain ⟨rfl, rfl, HK3⟩ := hrel
 have hr : Hid (Rep [(s, s)] (Mem [(s, s)])) := Lh (Rep.self (by simp [Plain, PlainF]; omega))
 have hx : optD (nthS [(s, s)] 0) = s := by simp [nthS, optD]
 have hb : optB (nthS [(s, s)] 0) = true := by simp [nthS, optB]
 have hc : cnt [(s, s)] - 1 = 0 := by simp [cnt]
 have HX := Lh hx
 have HB := Lh hb
 have HC := Lh hc
 clear hx hb hc
 go_wp2_with fail
 refine (First_st HK3 (fun _ h => h.1) 1 hr HX.out HB.out).mono ?_
 rintro e w4 ⟨rfl, HK4⟩
 go_wp2_with fail
 refine (Last_st HK4 (fun _ h => h.1) 1 hr (x := s) (v := true) (by rw [HC.out]; exact HX.out) (by rw [HC.out]; exact HB.out)).mono ?_
 rintro e w5 ⟨rfl, HK5⟩
 by_cases g1 : 0 ≤ s
 ·obtain rfl := pB_t hok ⟨g1, hs2⟩
  go_wp2_with fail
  go_ret2
  exact ⟨_, _, rfl, HK5⟩
 ·obtain rfl := pB_f hok (fun h => g1 h.1)
  go_wp2_with fail
  go_ret2
  exact ⟨_, _, rfl, HK5⟩
end
end
section
def StageP (l : List PartL) : Prop := l = []
section
variable {w0 w : World} {F : World → Prop}
theorem values_st (hK : Hid (St w0 w F)) {A : Option Addr} {l : List PartL} (hp : ∀ W, F W → PartsAt A l W) (b d t u s : Int) (c : Nat) {B : Option Addr} {O : List (Item Sp)} (hb : ∀ W, F W → LLx B O W) (cb : Nat)
  (hn : Hid (NumsOk ⟨b, d, t, u, s, l⟩)) (hpo : Hid (∀ p ∈ l, PartOk O.length p)) (hO : Hid (∀ g ∈ bodies O, g ≠ [] ∧ Plain g ∧ ∀ x, InS g x → 0 ≤ x ∧ x ≤ 1114111)) (r : List Sp) (hr : Hid (Rep r (InnS ⟨b, d, t, u, s, l⟩ (bodies O)))) (ok : Bool) (hok : Hid (pB (InRange ⟨b, d, t, u, s, l⟩ (bodies O)) = ok)) (hst : StageP l) :
  Calls Tryz.prog 242 #[.agg #[.int .i64 b, .int .i64 d, .int .i64 t, .int .i64 u, .int .i64 s, .slice A l.length c], .slice B O.length cb] w (RetLB2 w0 r ok F) := by
 obtain rfl : l = [] := hst
 have hi := inn_one (t := ⟨b, d, t, u, s, []⟩) rfl (win_ex hO.out)
 have hs : SmallN s := hn.out.2.1
 have hs1 := hs.1
 have hs2 := hs.2
 have hR : Rep [(s, s)] (InnS ⟨b, d, t, u, s, []⟩ (bodies O)) := ⟨by simp [Plain, PlainF]; omega, fun v => by
  rw [hi]
  show _ ↔ v = s
  simp only [InS, or_false]
  omega⟩
 obtain rfl := Rep.unique hr.out hR (fun _ => Iff.rfl)
 refine values0_st hK b d t u s A c B O.length cb hs ok (Lh ?_)
 rw [← hok.out]
 refine pB_congr ⟨fun h v hv => ?_, fun h => h s ((hi s).2 rfl)⟩
 rw [(hi v).1 hv]; exact h
end
end
end Go.Proofs.YtlmkokeapbleoaaGreat
