/- Contracts of span.Each and of the iterator that it gives. Condition: a list of fewer than 2^37 spans, whose numbers are ints; the loop's body keeps whatever is not its own. A region that draws its order, in the round of a range over a function: what is shown of it outside of a round holds there too. A row of spans that a loop's body appends to. Condition: no defer in the region. A region that draws its order and whose last operation waits for all the others: what must hold for its loads need not hold behind that last one. Condition: the last operation waits for each one that is taken first. -/
import Derived.Test.YtpmhdjiacgckjaaM05
import Derived.RangeFuncNested
import Derived.RangeFuncBound
import Derived.RangeFuncCalls
import Derived.RangeFuncLeaves
import Derived.Shelf.Abstract
import Derived.Shelf.RegionOpen
import Derived.OwnWalkIn
import Derived.TacticsInMore
import Derived.LoopNIn
import Derived.LoopIn
import Derived.Deep.RegionHeld
import Derived.Deep.RegionHeld3
import Derived.Maps.OwnIn
section
namespace Go.Proofs.Ytpmhdjiacgckjaa
open Go.RowKit Go.Shelf
set_option linter.unusedVariables false
attribute [local go_sem] Oper.semAt_some

/-- the numbers of a span, of a list of spans, rising -/
def numsOf (p : Sp) : List Int := (List.range (p.2 - p.1 + 1).toNat).map fun i : Nat => p.1 + (i : Int)
def nums (r : List Sp) : List Int := r.flatMap numsOf
theorem numsOf_length (p : Sp) : (numsOf p).length = (p.2 - p.1 + 1).toNat := by simp [numsOf]
theorem nums_cons (p : Sp) (r : List Sp) : nums (p :: r) = numsOf p ++ nums r := rfl
theorem nums_append (r s : List Sp) : nums (r ++ s) = nums r ++ nums s := by simp [nums]
theorem nums_length {a : Int} {r : List Sp} (h : PlainF a r) : ((nums r).length : Int) = cnt r := by
  induction r generalizing a with
  | nil => rfl
  | cons p r ih =>
    obtain ⟨h1, h2, h3, h4⟩ := h
    rw [nums_cons, List.length_append, numsOf_length, cnt_cons, ← ih h4]
    omega
theorem nums_get {a : Int} {r : List Sp} (h : PlainF a r) (i : Nat) : (nums r)[i]? = nthS r i := by
  induction r generalizing a i with
  | nil => simp [nums, nthS]
  | cons p r ih =>
    obtain ⟨h1, h2, h3, h4⟩ := h
    rw [nums_cons]
    simp only [nthS]
    by_cases hi : (i : Int) < p.2 - p.1 + 1
    · rw [if_pos hi, List.getElem?_append_left (by rw [numsOf_length]; omega)]
      unfold numsOf
      rw [List.getElem?_map, List.getElem?_range (by omega)]
      rfl
    · rw [if_neg hi, List.getElem?_append_right (by rw [numsOf_length]; omega), ih h4, numsOf_length]
      congr 1
      omega

/-- what a loop's body may write: its variables' boxes, and the row that one of them holds -/
def OwnB (lo hi Bu : Nat) (W : World) (k : Nat) : Prop := (lo ≤ k ∧ k < hi) ∨ ∃ off n c, W.cell? ⟨Bu, 0, none⟩ = some (.slice (some ⟨k, off, none⟩) n c)
/-- .. and nothing else: O says what is its own -/
structure KpO (O : World → Nat → Prop) (W W' : World) : Prop where
  size : W.heap.size ≤ W'.heap.size
  cell : ∀ (p : Addr) v, W.cell? p = some v → ¬ O W p.block → W'.cell? p = some v
  own : ∀ k, O W' k → O W k ∨ W.heap.size ≤ k
  wf : (∀ k, O W k → k < W.heap.size) → (∀ k, O W' k → k < W'.heap.size)
abbrev KpB (lo hi Bu : Nat) := KpO (OwnB lo hi Bu)
/-- what is its own hangs on the blocks below B0 alone -/
def OnB (B0 : Nat) (O : World → Nat → Prop) : Prop := ∀ W W' : World, (∀ k, k < B0 → W'.heap[k]? = W.heap[k]?) → ∀ k, O W' k ↔ O W k
section
variable {O : World → Nat → Prop} {A B C W W' : World}
theorem KpO.refl (W : World) : KpO O W W := ⟨Nat.le_refl _, fun _ _ h _ => h, fun _ h => .inl h, fun h => h⟩
theorem KpO.trans (h : KpO O A B) (k : KpO O B C) : KpO O A C := by
  refine ⟨Nat.le_trans h.size k.size, fun p v hv ho => ?_, fun j hj => ?_, fun hw => k.wf (h.wf hw)⟩
  · refine k.cell p v (h.cell p v hv ho) fun ho' => ?_
    rcases h.own _ ho' with h1 | h1
    · exact ho h1
    · have := World.block_lt_of_cell? A p hv; omega
  · rcases k.own j hj with h1 | h1
    · exact h.own j h1
    · exact .inr (Nat.le_trans h.size h1)
/-- where what is its own is as it was -/
theorem KpO.same (hs : W.heap.size ≤ W'.heap.size) (hc : ∀ (p : Addr) v, W.cell? p = some v → ¬ O W p.block → W'.cell? p = some v) (hb : ∀ k, O W' k ↔ O W k) : KpO O W W' :=
  ⟨hs, hc, fun k hk => .inl ((hb k).1 hk), fun hw k hk => Nat.lt_of_lt_of_le (hw k ((hb k).1 hk)) hs⟩
theorem KpO.below {n : Nat} (h : Below n W W') (hn : W.heap.size ≤ n) {B0 : Nat} (hO : OnB B0 O) (hb : B0 ≤ W.heap.size) : KpO O W W' :=
  KpO.same h.size (fun p u hu _ => (h.cell (Nat.lt_of_lt_of_le (World.block_lt_of_cell? W p hu) hn)).trans hu) (hO _ _ fun k hk => h.block k (by omega))
theorem kpO_t (h : KpO O A B) (k : KpO O B C) : KpO O A C := h.trans k
theorem kpO_b {B0 : Nat} (hO : OnB B0 O) {w : World} (hb : B0 ≤ w.heap.size) (W : World) (l : Nat) (o o' : Obj) (hl : w.heap.size ≤ l) (h : W.heap[l]? = some o) (hc : o.isCells = false) (_ : o.isWalk = false) : KpO O W (W.putObj l o') := by
  have hlt := (Array.getElem?_eq_some_iff.1 h).1
  have hg := grownBy_putObj' W l o'
  have hb2 := belowK_b (n₀ := w.heap.size) (Nat.le_refl _) W l o o' hl h hc (by assumption)
  refine KpO.same hb2.size (fun p u hu _ => ?_) (hO _ _ fun k hk => hb2.block k (by omega))
  have hne : p.block ≠ l := by
    intro e
    unfold World.cell? at hu
    rw [e, h] at hu
    cases o <;> simp_all [Obj.isCells]
  rw [← hu]
  exact World.cell?_of_block (hg.block p.block (World.block_lt_of_cell? W p hu) (fun e => hne (by simpa using e)))
end
section
variable {lo hi Bu : Nat} {A B C W W' : World}
theorem OwnB.congr (h : W'.cell? ⟨Bu, 0, none⟩ = W.cell? ⟨Bu, 0, none⟩) (k : Nat) : OwnB lo hi Bu W' k ↔ OwnB lo hi Bu W k := by unfold OwnB; rw [h]
theorem ownB_on {B0 : Nat} (h : Bu < B0) : OnB B0 (OwnB lo hi Bu) := fun W W' hW k => OwnB.congr (World.cell?_of_block (hW Bu h)) k
theorem KpB.refl (W : World) : KpB lo hi Bu W W := KpO.refl W
theorem KpB.trans (h : KpB lo hi Bu A B) (k : KpB lo hi Bu B C) : KpB lo hi Bu A C := KpO.trans h k
/-- where the box that may hold a row is as it was -/
theorem KpB.same (hs : W.heap.size ≤ W'.heap.size) (hc : ∀ (p : Addr) v, W.cell? p = some v → ¬ OwnB lo hi Bu W p.block → W'.cell? p = some v) (hb : W'.cell? ⟨Bu, 0, none⟩ = W.cell? ⟨Bu, 0, none⟩) : KpB lo hi Bu W W' :=
  KpO.same hs hc (OwnB.congr hb)
theorem KpB.setCell (b : Nat) (v : Value) (h1 : lo ≤ b) (h2 : b < hi) (hne : b ≠ Bu) : KpB lo hi Bu W (W.setCell ⟨b, 0, none⟩ v) := by
  refine KpB.same (by simp) (fun p u hu ho => ?_) ?_
  · rw [World.cell?_setCell_far _ _ _ _ (fun e => ho (.inl (by rw [← e]; exact ⟨h1, h2⟩)))]; exact hu
  · exact World.cell?_setCell_far _ _ _ _ hne
theorem KpB.below {n : Nat} (h : Below n W W') (hn : W.heap.size ≤ n) (hb : Bu < W.heap.size) : KpB lo hi Bu W W' :=
  KpB.same h.size (fun p u hu _ => (h.cell (Nat.lt_of_lt_of_le (World.block_lt_of_cell? W p hu) hn)).trans hu) (h.cell (Nat.lt_of_lt_of_le hb hn))
theorem kpB_t (h : KpB lo hi Bu A B) (k : KpB lo hi Bu B C) : KpB lo hi Bu A C := h.trans k
theorem kpB_b {w : World} (hb : Bu < w.heap.size) (W : World) (l : Nat) (o o' : Obj) (hl : w.heap.size ≤ l) (h : W.heap[l]? = some o) (hc : o.isCells = false) (_ : o.isWalk = false) : KpB lo hi Bu W (W.putObj l o') := by
  have hlt := (Array.getElem?_eq_some_iff.1 h).1
  have hb2 := belowK_b (n₀ := w.heap.size) (Nat.le_refl _) W l o o' hl h hc (by assumption)
  refine KpB.same hb2.size (fun p u hu _ => ?_) (hb2.cell (p := ⟨Bu, 0, none⟩) hb)
  have hne : p.block ≠ l := by
    intro e
    unfold World.cell? at hu
    rw [e, h] at hu
    cases o <;> simp_all [Obj.isCells]
  have hg := grownBy_putObj' W l o'
  rw [← hu]
  exact World.cell?_of_block (hg.block p.block (World.block_lt_of_cell? W p hu) (fun e => hne (by simpa using e)))
end

set_option maxRecDepth 100000 in
set_option maxHeartbeats 4000000 in
theorem Each_any (A : Option Addr) (n c : Nat) (l r : List Sp) (w : World) (h : Spans w A n l) (hw : SpW l) (hn : n < 137438953472) (hr : Rep r (Mem l)) :
    Calls Try.prog 53 #[.slice A n c] w fun e w' => ∃ B g c1, e = .returned (.func (.func 66) #[] #[.pointer (some ⟨B, 0, none⟩)]) ∧ (w.heap.size ≤ B ∧ B < w'.heap.size ∧ w.heap.size ≤ g ∧ g < B) ∧
      w'.cell? ⟨B, 0, none⟩ = some (.slice (some ⟨g, 0, none⟩) r.length c1) ∧ Spans w' (some ⟨g, 0, none⟩) r.length r ∧ Below w.heap.size w w' := by
  have HN := Lib.hid (Norm_any A n c l w h hw (by omega))
  have HR := Lib.hid hr
  clear h hr
  go_enter Try.func53, Try.ntmps53
  go_wp2_with fail
  refine HN.out.mono ?_
  rintro e w1 ⟨r', ho, hr', hrl⟩
  obtain rfl : r' = r := Rep.unique hr' HR.out (fun _ => Iff.rfl)
  obtain ⟨g1, c1, rfl, hg1, hc1, hm1, hrow1, hb1⟩ := ho.shape
  have hlt1 := (hrow1.lt g1 rfl).2
  have HRow1 := Lib.hid hrow1
  have HB1 := Lib.hid hb1
  clear ho hrow1 hb1 hr' HN
  go_wp2_with fail
  go_ret
  have hs1 : Spans w1 (some ⟨g1, 0, none⟩) r'.length r' := Sl.of_own HRow1.out
  refine ⟨w1.heap.size, g1, c1, rfl, ⟨HB1.out.size, by simp, hg1, hlt1⟩, ?_, hs1.alloc _, HB1.out.alloc HB1.out.size _⟩
  have hb := heap_alloc_new w1 (.cells #[.slice (some ⟨g1, 0, none⟩) r'.length c1] 26)
  simp only [World.cell?, hb]
  rfl

theorem numsOf_take (x1 x2 : Int) (m : Nat) (hm : (m : Int) < x2 - x1 + 1) : (List.range (m + 1)).map (fun i : Nat => x1 + (i : Int)) = (List.range m).map (fun i : Nat => x1 + (i : Int)) ++ [x1 + (m : Int)] := by
  rw [List.range_succ, List.map_append]; rfl
theorem nums_done (r : List Sp) (k : Nat) (x1 x2 : Int) (h : r[k]? = some (x1, x2)) (m : Nat) (hm : (m : Int) = x2 - x1 + 1) : nums (r.take k) ++ (List.range m).map (fun i : Nat => x1 + (i : Int)) = nums (r.take (k + 1)) := by
  rw [take_snoc? h, nums_append]
  congr 1
  have e : m = (x2 - x1 + 1).toNat := by omega
  subst e
  simp [nums, numsOf]
theorem nums_part (r : List Sp) (k : Nat) (x1 x2 : Int) (h : r[k]? = some (x1, x2)) (m : Nat) (hm : (m : Int) ≤ x2 - x1 + 1) : nums (r.take k) ++ (List.range m).map (fun i : Nat => x1 + (i : Int)) <+: nums r := by
  have e : r = r.take k ++ (x1, x2) :: r.drop (k + 1) := by rw [← drop_cons? h, List.take_append_drop]
  have e2 : nums r = nums (r.take k) ++ (numsOf (x1, x2) ++ nums (r.drop (k + 1))) := by
    have := congrArg nums e
    rw [nums_append, nums_cons] at this
    exact this
  rw [e2]
  refine (List.prefix_append_right_inj _).2 (List.IsPrefix.trans ?_ (List.prefix_append _ _))
  unfold numsOf
  exact List.IsPrefix.map _ ⟨List.range' m ((x2 - x1 + 1).toNat - m), by rw [List.range_eq_range', List.range_eq_range']; have := List.range'_append_1 (s := 0) (m := m) (n := (x2 - x1 + 1).toNat - m); rw [Nat.zero_add] at this; rw [this]; congr 1; omega⟩

set_option maxRecDepth 100000 in
set_option maxHeartbeats 8000000 in
/-- the iterator: for every body that keeps whatever is not its own, the numbers, rising -/
theorem each_in (F : Fence) (n : Nat) (hF : F.fn 66) (hro : F.round = none) (hn : 1 ≤ n) (l B0 B g c : Nat) (O : World → Nat → Prop) (hO : OnB B0 O) (r : List Sp) (hp : Plain r) (J Jx : List Int → World → Prop)
    (hY : ∀ pre x W, J pre W → pre ++ [x] <+: nums r → YieldAt F (n - 1) Try.prog l #[.int .i64 x] W fun e W' =>
      (e = .returned (.bool true) ∧ J (pre ++ [x]) W' ∧ KpO O W W') ∨ (e = .returned (.bool false) ∧ Jx (pre ++ [x]) W'))
    (W : World) (hJ : AbidesFrom W.heap.size J) (hBu : B0 ≤ W.heap.size) (hwf : ∀ k, O W k → k < W.heap.size) (hog : ¬ O W g) (hgW : g < W.heap.size)
    (hB : W.cell? ⟨B, 0, none⟩ = some (.slice (some ⟨g, 0, none⟩) r.length c)) (hS : Spans W (some ⟨g, 0, none⟩) r.length r) (h0 : J [] W) :
    CallsIn F n Try.prog 66 #[.func (.yield l) #[] #[], .pointer (some ⟨B, 0, none⟩)] W fun e W' => (∃ v, e = .returned v) ∧ ((∃ ys, ys = nums r ∧ J ys W') ∨ (∃ pre, pre <+: nums r ∧ Jx pre W')) := by
  have hlb := hp.len_le
  have HS := Lib.hid hS
  have HWF := Lib.hid hwf
  have HP := Lib.hid hp
  have HY := Lib.hid hY
  have HJ := Lib.hid hJ
  clear hS hwf hp hY hJ
  refine callsIn_of_wp Try.func66 rfl hF ?_ hro
  simp only [Try.ntmps66, List.size_toArray, List.length_cons, List.length_nil, Nat.reduceAdd, Nat.reduceSub, Array.replicate_succ, Array.replicate_zero, List.push_toArray, List.append_toArray, List.nil_append, List.cons_append]
  gi_wp2
  gi_loopw [4, 5, 8] (fun _ _ i wr => ∃ k : Nat, k ≤ r.length ∧ i = .int .i64 k ∧ J (nums (r.take k)) wr ∧ W.heap.size ≤ wr.heap.size ∧ Hid ((∀ j, O wr j → j < wr.heap.size) ∧ ¬ O wr g ∧ Spans wr (some ⟨g, 0, none⟩) r.length r)) (fun _ _ i _ => r.length - (intOf i).toNat)
  case atStart => exact ⟨0, Nat.zero_le _, rfl, h0, Nat.le_refl _, Lib.hid ⟨HWF.out, hog, HS.out⟩⟩
  case round =>
  obtain ⟨wq, rfl⟩ : ∃ wq : World, wq = wr := ⟨_, rfl⟩
  obtain ⟨k, hk, rfl, hJs, hsz, HH⟩ := hrel
  by_cases hlt : k < r.length
  · obtain ⟨x, hx⟩ : ∃ x, r[k]? = some x := ⟨_, List.getElem?_eq_getElem hlt⟩
    have hxb := PlainF.spw HP.out (Int.le_refl _) x (List.mem_of_getElem? hx)
    have hcs := (HH.out.2.2).at_ hlt
    obtain ⟨bb, off, p, hbo, hp2, hc1, hc2⟩ := hcs
    obtain rfl : p = x := by rw [hx] at hp2; exact (Option.some.inj hp2).symm
    obtain ⟨x1, x2⟩ := p
    simp only at hxb hc1 hc2
    have hbo2 : bb = g ∧ off = 0 := by injection hbo with e; injection e with e1 e2; exact ⟨e1.symm, e2.symm⟩
    obtain ⟨rfl, rfl⟩ := hbo2
    simp only [Nat.zero_add] at hc1 hc2
    have HX := Lib.hid hx
    have hgw := lt_of_cell hc1
    have hJ2 := HJ.out _ _ _ none hJs (World.grownBy_alloc wq (.cells #[.int .i64 x1, .int .i64 x2] 52) none) (fun r e => by cases e)
    clear hx hp2 hbo hJs
    obtain ⟨wo, hwo⟩ : ∃ wo : World, wq.alloc (.cells #[.int .i64 x1, .int .i64 x2] 52) = wo := ⟨_, rfl⟩
    have hbx : wo.cell? ⟨wq.heap.size, 1, none⟩ = some (.int .i64 x2) := by
      have hb := heap_alloc_new wq (.cells #[.int .i64 x1, .int .i64 x2] 52)
      rw [← hwo]; simp only [World.cell?, hb]; rfl
    have HI : Hid ((∀ j, O wo j → j < wo.heap.size) ∧ ¬ O wo bb ∧ Spans wo (some ⟨bb, 0, none⟩) r.length r ∧ ¬ O wo wq.heap.size) := by
      have hsame : ∀ j, O wo j ↔ O wq j := fun j => hO _ _ (fun k hk => by rw [← hwo]; exact Below.heap_alloc _ _ _ (by omega)) j
      refine ⟨fun j hj => ?_, fun h => HH.out.2.1 ((hsame _).1 h), hwo ▸ HH.out.2.2.alloc _, fun h => ?_⟩
      · have := HH.out.1 j ((hsame j).1 hj); rw [← hwo]; simp; omega
      · have := HH.out.1 _ ((hsame _).1 h); omega
    have hso : wo.heap.size = wq.heap.size + 1 := by rw [← hwo]; simp
    rw [hwo] at hJ2
    have HWO := Lib.hid hwo
    clear hwo
    gi_wp2
    rw [HWO.out]
    gi_loopw [5] (fun i wr => ∃ m : Nat, (m : Int) ≤ x2 - x1 + 1 ∧ i = .int .i64 (x1 + m) ∧ J (nums (r.take k) ++ (List.range m).map (fun i : Nat => x1 + (i : Int))) wr ∧ wo.heap.size ≤ wr.heap.size ∧ wr.cell? ⟨wq.heap.size, 1, none⟩ = some (.int .i64 x2) ∧ Hid ((∀ j, O wr j → j < wr.heap.size) ∧ ¬ O wr bb ∧ Spans wr (some ⟨bb, 0, none⟩) r.length r ∧ ¬ O wr wq.heap.size)) (fun i _ => (x2 + 1 - intOf i).toNat)
    case atStart => exact ⟨0, by omega, by simp, by simpa using hJ2, Nat.le_refl _, hbx, HI⟩
    case round =>
    obtain ⟨m, hm, rfl, hJm, hsi, hbi, HM⟩ := hrel
    by_cases hlt2 : x1 + (m : Int) ≤ x2
    · have hst := numsOf_take x1 x2 m (by omega)
      have hpre := nums_part r k x1 x2 HX.out (m + 1) (by omega)
      rw [hst, ← List.append_assoc] at hpre
      have HST := Lib.hid hst
      have HPRE := Lib.hid hpre
      obtain ⟨fn, tmps, assign, body, hy, hR⟩ := HY.out _ (x1 + (m : Int)) wr hJm (by simpa using hpre)
      clear hst hpre
      gi_wp2
      refine hR.mono ?_
      rintro e W3 (⟨rfl, hJ3, hk3⟩ | ⟨rfl, hJx3⟩)
      · have hbw := Nat.lt_of_lt_of_le hgw (Nat.le_trans (by omega : wq.heap.size ≤ wo.heap.size) hsi)
        have hbx3 := hk3.cell ⟨wq.heap.size, 1, none⟩ _ hbi HM.out.2.2.2
        have HM3 : Hid ((∀ j, O W3 j → j < W3.heap.size) ∧ ¬ O W3 bb ∧ Spans W3 (some ⟨bb, 0, none⟩) r.length r ∧ ¬ O W3 wq.heap.size) := by
          refine ⟨hk3.wf HM.out.1, fun h => ?_, ⟨HM.out.2.2.1.1, fun h => ?_⟩, fun h => ?_⟩
          · rcases hk3.own _ h with h1 | h1
            · exact HM.out.2.1 h1
            · omega
          · obtain ⟨b, o, he, hc⟩ := HM.out.2.2.1.2 h
            refine ⟨b, o, he, fun j u hu => hk3.cell _ _ (hc j u hu) ?_⟩
            have e1 : bb = b := by injection he with e; injection e
            rw [← e1]; exact HM.out.2.1
          · rcases hk3.own _ h with h1 | h1
            · exact HM.out.2.2.2 h1
            · omega
        have hs3 := hk3.size
        clear hk3
        gi_wp2
        go_roundw
        case rel => exact ⟨m + 1, by omega, by go_num, by rw [HST.out, ← List.append_assoc]; exact hJ3, by omega, hbx3, HM3⟩
        case measure => simp [intOf]; omega
      · gi_wp2
        refine bodyPost_ret (results_none rfl _ _ _) rfl ?_
        exact ⟨⟨_, rfl⟩, .inr ⟨_, HPRE.out, hJx3⟩⟩
    · obtain hme : (m : Int) = x2 - x1 + 1 := by omega
      have HN := Lib.hid (nums_done r k x1 x2 HX.out m hme)
      clear hme
      gi_wp2
      refine ⟨⟨k + 1, by omega, by go_num, by rw [← HN.out]; exact hJm, by omega, Lib.hid ⟨HM.out.1, HM.out.2.1, HM.out.2.2.1⟩⟩, by simp [intOf]; omega⟩
  · have hd : decide (k < r.length) = false := by simpa using hlt
    obtain rfl : k = r.length := by omega
    gi_wp2
    go_end0
    exact ⟨⟨_, rfl⟩, .inl ⟨_, by rw [List.take_length], hJs⟩⟩

theorem each_stopsO (F : Fence) (n : Nat) (hF : F.fn 66) (hro : F.round = none) (hn : 1 ≤ n) (B0 B g c : Nat) (O : World → Nat → Prop) (hO : OnB B0 O) (r : List Sp) (hp : Plain r) (w : World) (hBu : B0 ≤ w.heap.size) (hwf : ∀ k, O w k → k < w.heap.size) (hog : ¬ O w g)
    (hB : w.cell? ⟨B, 0, none⟩ = some (.slice (some ⟨g, 0, none⟩) r.length c)) (hg : g < w.heap.size) (hS : Spans w (some ⟨g, 0, none⟩) r.length r) :
    SeqStopsK F n Try.prog 66 #[.pointer (some ⟨B, 0, none⟩)] (fun x : Int => #[Value.int .i64 x]) (KpO O) (fun ys => ys = nums r) (fun pre => pre <+: nums r) (nums r).length w := fun l J Jx W hW hJ _ hY h0 => by
  have hs : ∀ j, O W j ↔ O w j := hO _ _ fun k hk => hW.block k (by omega)
  exact each_in F n hF hro hn l B0 B g c O hO r hp J Jx (fun pre x W hJ hpx => hY pre x W hJ (by have := hpx.length_le; rw [List.length_append] at this; simp at this; omega)) W hJ (Nat.le_trans hBu hW.size) (fun k hk => Nat.lt_of_lt_of_le (hwf k ((hs k).1 hk)) hW.size) (fun h => hog ((hs g).1 h)) (Nat.lt_of_lt_of_le hg hW.size)
    ((hW.cell (lt_of_cell hB)).trans hB) (hS.below hW) h0
/-- .. whose rounds are told that what comes is among the numbers -/
theorem each_stopsS (F : Fence) (n : Nat) (hF : F.fn 66) (hro : F.round = none) (hn : 1 ≤ n) (B0 B g c : Nat) (O : World → Nat → Prop) (hO : OnB B0 O) (r : List Sp) (hp : Plain r) (w : World) (hBu : B0 ≤ w.heap.size) (hwf : ∀ k, O w k → k < w.heap.size) (hog : ¬ O w g)
    (hB : w.cell? ⟨B, 0, none⟩ = some (.slice (some ⟨g, 0, none⟩) r.length c)) (hg : g < w.heap.size) (hS : Spans w (some ⟨g, 0, none⟩) r.length r) :
    SeqStopsK F n Try.prog 66 #[.pointer (some ⟨B, 0, none⟩)] (fun x : { x : Int // x ∈ nums r } => #[Value.int .i64 x.1]) (KpO O) (fun ys => ys.map (·.1) = nums r) (fun pre => pre.map (·.1) <+: nums r) (nums r).length w := fun l J Jx W hW hJ _ hY h0 => by
  have hs : ∀ j, O W j ↔ O w j := hO _ _ fun k hk => hW.block k (by omega)
  have h := each_in F n hF hro hn l B0 B g c O hO r hp (fun pre W => ∃ p : List { x : Int // x ∈ nums r }, p.map (·.1) = pre ∧ J p W) (fun pre W => ∃ p : List { x : Int // x ∈ nums r }, p.map (·.1) = pre ∧ Jx p W)
    (fun pre x W hJp hpx => by
      obtain ⟨p, rfl, hJ1⟩ := hJp
      have hm : x ∈ nums r := hpx.subset (by simp)
      have hl : p.length < (nums r).length := by have := hpx.length_le; simp at this; omega
      obtain ⟨fn, tmps, assign, body, hy, hR⟩ := hY p ⟨x, hm⟩ W hJ1 hl
      refine ⟨fn, tmps, assign, body, hy, hR.mono ?_⟩
      rintro e W' (⟨rfl, h1, h2⟩ | ⟨rfl, h1⟩)
      · exact .inl ⟨rfl, ⟨_, by simp, h1⟩, h2⟩
      · exact .inr ⟨rfl, _, by simp, h1⟩)
    W (fun s X Y row hs hg hr => by
      obtain ⟨p, h1, h2⟩ := hs
      exact ⟨p, h1, hJ p X Y row h2 hg hr⟩)
    (Nat.le_trans hBu hW.size) (fun k hk => Nat.lt_of_lt_of_le (hwf k ((hs k).1 hk)) hW.size) (fun h => hog ((hs g).1 h)) (Nat.lt_of_lt_of_le hg hW.size) ((hW.cell (lt_of_cell hB)).trans hB) (hS.below hW) ⟨[], rfl, h0⟩
  refine h.mono ?_
  rintro e W' ⟨hv, ⟨ys, rfl, p, h1, h2⟩ | ⟨pre, h1, p, rfl, h2⟩⟩
  · exact ⟨hv, .inl ⟨p, h1, h2⟩⟩
  · exact ⟨hv, .inr ⟨p, h1, h2⟩⟩
theorem each_stops (F : Fence) (n : Nat) (hF : F.fn 66) (hro : F.round = none) (hn : 1 ≤ n) (lo hi Bu B g c : Nat) (r : List Sp) (hp : Plain r) (w : World) (hBu : Bu < w.heap.size) (hwf : ∀ k, OwnB lo hi Bu w k → k < w.heap.size) (hog : ¬ OwnB lo hi Bu w g)
    (hB : w.cell? ⟨B, 0, none⟩ = some (.slice (some ⟨g, 0, none⟩) r.length c)) (hg : g < w.heap.size) (hS : Spans w (some ⟨g, 0, none⟩) r.length r) :
    SeqStopsK F n Try.prog 66 #[.pointer (some ⟨B, 0, none⟩)] (fun x : Int => #[Value.int .i64 x]) (KpB lo hi Bu) (fun ys => ys = nums r) (fun pre => pre <+: nums r) (nums r).length w :=
  each_stopsO F n hF hro hn w.heap.size B g c (OwnB lo hi Bu) (ownB_on hBu) r hp w (Nat.le_refl _) hwf hog hB hg hS
end Go.Proofs.Ytpmhdjiacgckjaa
end
section
namespace Go.Proofs.Ytpmhdjiacgckjaa
open Go.RowKit Go.Shelf
set_option linter.unusedVariables false
attribute [local go_sem] Oper.semAt_some

def noDefer (o : Oper) : Bool := match o.op with | .defer _ => false | _ => true
theorem noDefer.spec {o : Oper} (h : noDefer o = true) : ∀ c, o.op ≠ .defer c := by
  intro c e
  unfold noDefer at h
  rw [e] at h
  cases h
theorem rows_in {P : Program} {row : String} {args : Array Value} {w : World} {R : Value → World → Prop} (l n : Nat) (h : Rows P row args w R) : RowsIn (Fence.wide.inRound l) n P row args w R :=
  fun c cs _ => let ⟨v, w', r, s⟩ := h c cs; ⟨v, w', r, stepsIn_wide.2 s⟩
theorem oper_round {P : Program} {o : Oper} {a : Act} {w : World} {K : Act → World → Prop} {Q : Exit → Act → World → Prop} (l n : Nat) (hnd : ∀ c, o.op ≠ .defer c) (h : o.wp P a w K Q) :
    o.wpIn (Fence.wide.inRound l) n P a w K Q := by
  refine ⟨fun f _ => trivial, ?_⟩
  rw [show (Fence.wide.inRound l).round = some l from rfl, Oper.semAt_some l _ _ hnd]
  unfold Oper.wp at h
  generalize (execOp a.eval o).run P w = r at *
  cases r with
  | ok x w' =>
    cases x <;> simp only [Oper.upon, Oper.uponIn] at h ⊢
    all_goals first
      | exact h
      | exact CallsIn.inRound l (callsIn_wide.2 h)
      | exact rows_in l _ h
      | (refine ⟨?_, CallsIn.inRound l (callsIn_wide.2 h)⟩; simp [Fence.wide])
      | (refine ⟨?_, rows_in l _ h⟩; simp [Fence.wide])
  | halt x w' => cases x <;> simp only [Oper.upon, Oper.uponIn] at h ⊢ <;> exact h
theorem ops_round {P : Program} {ops : Array Oper} {Q : Exit → Act → World → Prop} (l n : Nat) (hnd : ops.all noDefer = true) (hQ : ∀ a w, ¬ Q .outgrown a w) (L : List Nat) :
    ∀ (a : Act) (w : World), wpOps P ops Q L a w → wpOpsIn (Fence.wide.inRound l) n P ops Q L a w := by
  induction L with
  | nil => exact fun a w h => h
  | cons i L ih =>
    intro a w h
    simp only [wpOps] at h
    simp only [wpOpsIn]
    cases ho : ops[i]? with
    | none => rw [ho] at h; exact ih _ _ h
    | some o =>
      rw [ho] at h
      simp only at h ⊢
      have hd : noDefer o = true := by
        obtain ⟨hi, he⟩ := Array.getElem?_eq_some_iff.1 ho
        exact he ▸ (Array.all_eq_true.1 hnd) i hi
      split at h
      · rename_i hw
        rw [if_pos hw]
        rcases h with h | ⟨_, a', w', h⟩
        · exact Oper.wpIn_mono (fun a w => ih a w) (oper_round l n (noDefer.spec hd) h)
        · exact absurd h (hQ a' w')
      · rename_i hw
        rw [if_neg hw]
        exact ⟨fun f _ => trivial, ih _ _ h⟩
theorem region_round {P : Program} {id : Nat} {ops : Array Oper} {Q : Exit → Act → World → Prop} {a : Act} {w : World} {l n : Nat} (hnd : ops.all noDefer = true) (hQ : ∀ a w, ¬ Q .outgrown a w) (hm : P.follows .mixedOrders = true)
    (h : wpAny P .any ops Q ops.size (Array.replicate ops.size false) a { w with drawn := w.drawn + 1 }) : (Code.region id ops true).wpIn (Fence.wide.inRound l) n P Q a w :=
  wpIn_region_draw fun t => by
    simp only [Region.schedule, hm, Bool.true_or, if_true]
    exact ops_round l n hnd hQ _ _ _ (wpAny_sound ops.size t _ a _ h)
theorem region_round_held {P : Program} {id : Nat} {ops : Array Oper} {Q : Exit → Act → World → Prop} {a : Act} {w : World} {l n : Nat} (hnd : ops.all noDefer = true) (hQ : ∀ a w, ¬ Q .outgrown a w) (hm : P.follows .mixedOrders = true)
    (S : World → Prop) (hS : S w.drew) (h : S w.drew → wpAnyH P .any ops Q S ops.size (Array.replicate ops.size false) a w.drew) : (Code.region id ops true).wpIn (Fence.wide.inRound l) n P Q a w :=
  region_round hnd hQ hm (wpAny_of_held _ _ _ _ (h hS))
theorem region_round_quiet {P : Program} {id : Nat} {Q : Exit → Act → World → Prop} {a : Act} {w : World} {l n : Nat} {L : List Oper} (hnd : L.toArray.all noDefer = true) (hQ : ∀ a w, ¬ Q .outgrown a w) (hm : P.follows .mixedOrders = true)
    (hB : Region.lexB .any L.toArray = true)
    (h : wpQuiet P L.toArray (fun w' => ∃ n, w' = w.drewN n) (fun a' => ∀ w', (∃ n, w' = w.drewN n) → Q .normal a' w') L a) : (Code.region id L.toArray true).wpIn (Fence.wide.inRound l) n P Q a w := by
  simp only [Region.lexB, Bool.and_eq_true] at hB
  refine region_round hnd hQ hm (wpAny_of_quiet (C := fun w' => ∃ n, w' = w.drewN n) (Q := fun a' => ∀ w', (∃ n, w' = w.drewN n) → Q .normal a' w') (fun _ w' hw' h => h w' hw') _ _ _ _ ⟨1, rfl⟩ ?_)
  have := wpAnyQ_lex (C := fun w' => ∃ n, w' = w.drewN n) (md := .any) hB.1 L 0 (Array.replicate L.toArray.size false) a (by simp) (by simpa using hB.2) (by simpa using h)
  simpa using this

/-- a range over a function, outside of any fence -/
theorem wp_rangeFunc {P : Program} {α : Type} {g : Operand} {ps : Array Tmp} {assign body : Code} {Q : Exit → Act → World → Prop} {a : Act} {w : World}
    {gf : Nat} {lb : Array Value} (hg : a.eval g = .func (.func gf) #[] lb) (eg : ∀ args w, (callFunc gf args).run P w = .ok (.enter gf args) w)
    {encs : α → Array Value} {Kp : World → World → Prop} {S Sp : List α → Prop} {N : Nat} (hseq : SeqStopsK Fence.wide 7 P gf lb encs Kp S Sp N w)
    (hKt : ∀ {A B C : World}, Kp A B → Kp B C → Kp A C) (hKb : ∀ (W : World) (l : Nat) (o o' : Obj), w.heap.size ≤ l → W.heap[l]? = some o → o.isCells = false → o.isWalk = false → Kp W (W.putObj l o')) (hps : ∀ x, (encs x).size = ps.size)
    (I : List α → World → Prop) (Ix : Code → List α → World → Prop) (hI : OwnFrom w.heap.size I) (hIx : ∀ c, OwnFrom w.heap.size (Ix c)) (h0 : I [] w) (a₁ : α → Act)
    (hassign : ∀ (l : Nat) (x : α) (W : World) (K : Act → World → Prop), K (a₁ x) W →
      assign.wpIn (Fence.wide.inRound l) 6 P (Exit.then K (fun _ _ _ => False)) { tmps := (ps.zip (encs x)).foldl (fun t (p, v) => t.setIfInBounds p v) a.tmps, defers := [] } W)
    (hbody : ∀ (l : Nat) (pre : List α) (x : α) (W : World), I pre W → pre.length < N → body.wpIn (Fence.wide.inRound l) 6 P (ownPostK Kp I Ix (pre ++ [x]) W) (a₁ x) W)
    (hdone : ∀ (D : Nat) (xs : List α) (W : World), w.heap.size ≤ D → S xs → I xs W → W.heap[D]? = some (.deferred (some [])) → Q .normal { a with defers := { target := .collected D, args := #[] } :: a.defers } W)
    (hstop : ∀ (D : Nat) (c : Code) (pre : List α) (W : World), w.heap.size ≤ D → Sp pre → Ix c pre W → W.heap[D]? = some (.deferred (some [])) → c.wp P Q { a with defers := { target := .collected D, args := #[] } :: a.defers } W) :
    (Code.rangeFunc g ps assign body).wp P Q a w :=
  (wpIn_wide (n := 8)).1 (wpIn_rangeFunc_ownF (F := Fence.wide) rfl (by omega) hg trivial eg hseq hKt hKb (Below.refl _ _) hps I Ix hI hIx h0 a₁ hassign hbody hdone
    (fun D c pre W h1 h2 h3 h4 => (wpIn_wide (n := 8)).2 (hstop D c pre W h1 h2 h3 h4)))

theorem cellNew (w : World) (v : Value) (t : TypeId) : (w.alloc (.cells #[v] t)).cell? ⟨w.heap.size, 0, none⟩ = some v ∧ (w.alloc (.cells #[v] t)).frozen? ⟨w.heap.size, 0, none⟩ = false := by
  have hb := heap_alloc_new w (.cells #[v] t)
  constructor
  · simp only [World.cell?, hb]; rfl
  · unfold World.frozen?; rw [hb]; simp
theorem cellAlloc {w : World} (o : Obj) {p : Addr} {v : Value} (h : w.cell? p = some v) : (w.alloc o).cell? p = some v := (World.cell?_alloc_lt w o p (World.block_lt_of_cell? w p h)).trans h
theorem frozenAlloc {w : World} (o : Obj) {p : Addr} {v : Value} (h : w.cell? p = some v) (hf : w.frozen? p = false) : (w.alloc o).frozen? p = false :=
  (((Below.refl w.heap.size w).alloc (Nat.le_refl _) o).frozen (World.block_lt_of_cell? w p h)).trans hf

theorem keepsDrewN (W : World) (q : Nat) : KeepsOthers W (W.drewN q) := ⟨Nat.le_refl _, fun k o h _ => h⟩
theorem KpB.store {lo hi Bu : Nat} {W : World} (q b : Nat) (v : Value) (h1 : lo ≤ b) (h2 : b < hi) (hne : b ≠ Bu) : KpB lo hi Bu W ((W.drewN q).setCell ⟨b, 0, none⟩ v) :=
  (show KpB lo hi Bu W (W.drewN q) from KpB.same (Nat.le_refl _) (fun _ _ h _ => h) rfl).trans (KpB.setCell (W := W.drewN q) b v h1 h2 hne)

/-- what a body does to the row that its box holds -/
theorem KpB.pushed {lo hi Bu : Nat} {W w0 W3 : World} {A A' : Option Addr} {n c n' c' base : Nat} {xs ys : List Value} (h1 : lo ≤ Bu) (h2 : Bu < hi) (hv : W.cell? ⟨Bu, 0, none⟩ = some (.slice A n c))
    (hb : Below W.heap.size W w0) (ho0 : w0.ownsRow base 52 2 (.slice A n c) n ys) (hg : w0.grownBy W3 (Value.ownBlock (.slice A n c)))
    (hat : Value.ownBlock (.slice A' n' c') = Value.ownBlock (.slice A n c) ∨ Value.ownBlock (.slice A' n' c') = some w0.heap.size)
    (ho : W3.ownsRow base 52 2 (.slice A' n' c') n' xs) (hbase : hi ≤ base) :
    KpB lo hi Bu W (W3.setCell ⟨Bu, 0, none⟩ (.slice A' n' c')) ∧ (W3.setCell ⟨Bu, 0, none⟩ (.slice A' n' c')).cell? ⟨Bu, 0, none⟩ = some (.slice A' n' c') ∧ (W3.setCell ⟨Bu, 0, none⟩ (.slice A' n' c')).ownsRow base 52 2 (.slice A' n' c') n' xs := by
  have hBu := lt_of_cell hv
  have hs1 := hb.size
  have hs2 := hg.size
  have hne : some Bu ≠ Value.ownBlock (.slice A n c) := fun e => by have := ho0.lt Bu e.symm; omega
  have hcB : W3.cell? ⟨Bu, 0, none⟩ = some (.slice A n c) := (World.cell?_of_block (hg.block Bu (by omega) hne)).trans ((hb.cell (p := ⟨Bu, 0, none⟩) hBu).trans hv)
  have hc4 : (W3.setCell ⟨Bu, 0, none⟩ (.slice A' n' c')).cell? ⟨Bu, 0, none⟩ = some (.slice A' n' c') := World.cell?_setCell_same' _ _ _ (by rw [hcB]; rfl)
  have hsz : (W3.setCell ⟨Bu, 0, none⟩ (.slice A' n' c')).heap.size = W3.heap.size := by simp
  have key : ∀ k, OwnB lo hi Bu (W3.setCell ⟨Bu, 0, none⟩ (.slice A' n' c')) k → OwnB lo hi Bu W k ∨ (k = w0.heap.size ∧ k < W3.heap.size) := by
    rintro k (h | ⟨off, m, d, h⟩)
    · exact .inl (.inl h)
    · rw [hc4] at h
      injection h with h
      injection h with e1 e2 e3
      subst e1
      have hlt := (ho.lt k rfl).2
      rcases hat with h | h
      · left; right
        rcases ho0.2 with ⟨e, _⟩ | ⟨g, cap, cur, e, _⟩
        · injection e with e1; subst e1; simp [Value.ownBlock] at h
        · injection e with e1 e4 e5
          subst e1
          simp [Value.ownBlock] at h
          subst h
          exact ⟨0, n, c, hv⟩
      · right
        simp [Value.ownBlock] at h
        exact ⟨h, hlt⟩
  refine ⟨⟨by rw [hsz]; omega, fun p u hu hno => ?_, fun k hk => ?_, fun hw k hk => ?_⟩, hc4, ?_⟩
  · have hp := World.block_lt_of_cell? W p hu
    have hpB : Bu ≠ p.block := fun e => hno (.inl (by omega))
    have hpo : some p.block ≠ Value.ownBlock (.slice A n c) := by
      intro e
      refine hno (.inr ?_)
      rcases ho0.2 with ⟨e', _⟩ | ⟨g, cap, cur, e', _⟩
      · injection e' with e1; subst e1; simp [Value.ownBlock] at e
      · injection e' with e1 e4 e5
        subst e1
        simp [Value.ownBlock] at e
        rw [e]
        exact ⟨0, n, c, hv⟩
    rw [World.cell?_setCell_far _ _ _ _ hpB]
    exact hg.cell ((hb.cell hp).trans hu) hpo
  · rcases key k hk with h | h
    · exact .inl h
    · right; omega
  · rw [hsz]
    rcases key k hk with h | h
    · have := hw k h; omega
    · exact h.2
  · exact ownsRow_setCell_below ho (a := ⟨Bu, 0, none⟩) (by show Bu < base; omega) _
end Go.Proofs.Ytpmhdjiacgckjaa
end
section
namespace Go.Proofs.Ytpmhdjiacgckjaa
open Go.RowKit Go.Shelf
set_option linter.unusedVariables false
/-- does operation z wait for operation i? -/
def waitsOn (md : Region.Mode) (ops : Array Oper) (z i : Nat) : Bool := ((ops[z]?).map fun o => o.after.any fun e => Region.binds md e && e.on == i).getD false
/-- whatever order is picked: S holds behind each operation but z -/
def wpAnyZ (P : Program) (md : Region.Mode) (ops : Array Oper) (Q : Exit → Act → World → Prop) (S : World → Prop) (z : Nat) : Nat → Array Bool → Act → World → Prop
  | 0, listed, a, w => Region.ready md ops listed = [] ∧ Q .normal a w
  | fuel + 1, listed, a, w => (Region.ready md ops listed = [] → Q .normal a w) ∧
    ∀ i ∈ Region.ready md ops listed, wpOp P ops Q i (fun a' w' => (i = z ∨ S w') ∧ wpAnyZ P md ops Q S z fuel (listed.setIfInBounds i true) a' w') a w
section
variable {P : Program} {ops : Array Oper} {Q : Exit → Act → World → Prop} {md : Region.Mode} {S : World → Prop} {z : Nat}
theorem wpAny_of_Z : ∀ (fuel : Nat) (listed : Array Bool) (a : Act) (w : World), wpAnyZ P md ops Q S z fuel listed a w → wpAny P md ops Q fuel listed a w
  | 0, _, _, _, h => h
  | fuel + 1, _, _, _, h => ⟨h.1, fun i hi => wpOp_mono (fun a' w' h' => wpAny_of_Z fuel _ a' w' h'.2) (h.2 i hi)⟩
theorem waits_not {i : Nat} {oz : Oper} (h : waitsOn md ops z i = true) (hz : ops[z]? = some oz) (hn : ∀ e ∈ oz.after, Region.binds md e = true → e.on ≠ i) : False := by
  unfold waitsOn at h
  rw [hz] at h
  simp only [Option.map_some, Option.getD_some] at h
  rw [Array.any_eq_true'] at h
  obtain ⟨e, he, hb⟩ := h
  rw [Bool.and_eq_true, beq_iff_eq] at hb
  exact hn e he hb.1 hb.2
theorem wpAnyZ_first {i : Nat} {oi : Oper} {v : Value} (hi : ops[i]? = some oi) (hsel : ∀ (j : Nat) (o : Oper) cs b, ops[j]? = some o → o.op ≠ .select cs b)
    (hQ : ∀ c a w, Q (.panic c) (a.put oi.dst v) w → Q (.panic c) a w) (hw : waitsOn md ops z i = true) :
    ∀ (fuel : Nat) (listed : Array Bool) (a : Act) (w : World),
      (∀ j oj, ops[j]? = some oj → j ≠ i → listed.getD j true = false → (∀ e ∈ oj.after, Region.binds md e = true → e.on ≠ i) → oi.apart ops oj = true) →
      i ∈ Region.ready md ops listed → YieldsIf P ops S oi v a → S w →
      wpAnyZ P md ops Q S z fuel (listed.setIfInBounds i true) (a.put oi.dst v) w → wpAnyZ P md ops Q S z (fuel + 1) listed a w := by
  intro fuel
  induction fuel with
  | zero =>
    intro listed a w _ hr hy hS H
    refine ⟨fun h => absurd hr (by rw [h]; exact List.not_mem_nil), fun j hj => ?_⟩
    by_cases hji : j = i
    · subst hji; exact hy.wpOp hi hS ⟨.inr hS, H⟩
    · have h1 := ready_mono hj hji
      rw [H.1] at h1
      exact absurd h1 List.not_mem_nil
  | succ fuel ih =>
    intro listed a w hfree hr hy hS H
    refine ⟨fun h => absurd hr (by rw [h]; exact List.not_mem_nil), fun j hj => ?_⟩
    by_cases hji : j = i
    · subst hji; exact hy.wpOp hi hS ⟨.inr hS, H⟩
    have h1 := H.2 j (ready_mono hj hji)
    obtain ⟨hun, oj, hoj, hall⟩ := mem_ready.1 hj
    have hi0 := (mem_ready.1 hr).1
    have hnot : ∀ e ∈ oj.after, Region.binds md e = true → e.on ≠ i := fun e he hb heq => by
      have h2 := hall e he hb
      rw [heq] at h2
      rcases Nat.lt_or_ge i listed.size with hl | hl
      · simp [hl] at hi0 h2; rw [hi0] at h2; cases h2
      · simp [Array.getElem?_eq_none hl] at h2
    have hjz : j ≠ z := fun e => by subst e; exact waits_not hw hoj hnot
    have h2 := wpOp_putIf hoj (hfree j oj hoj hji hun hnot) (fun cs b => hsel i oi cs b hi) (fun cs b => hsel j oj cs b hoj) hQ hy h1
    have hfree2 : ∀ k ok, ops[k]? = some ok → k ≠ i → (listed.setIfInBounds j true).getD k true = false → (∀ e ∈ ok.after, Region.binds md e = true → e.on ≠ i) → oi.apart ops ok = true := fun k ok hk hki hu hno => by
      refine hfree k ok hk hki ?_ hno
      by_cases hjk : j = k
      · subst hjk; exact hun
      · rw [getD_set_ne true hjk] at hu; exact hu
    refine wpOp_mono (fun a' w' h3 => ?_) h2
    have hS3 := h3.2.1.resolve_left hjz
    refine ⟨.inr hS3, ih (listed.setIfInBounds j true) a' w' hfree2 (ready_mono hr (Ne.symm hji)) h3.1 hS3 ?_⟩
    rw [Array.setIfInBounds_comm _ _ hji]
    exact h3.2.2
theorem wpAnyZ_take {i : Nat} {oi : Oper} {v : Value} {fuel : Nat} {listed : Array Bool} {a : Act} {w : World} (hi : ops[i]? = some oi)
    (hs : Region.noSelect ops = true) (hf : Region.free md ops listed i = true) (hr : (Region.ready md ops listed).contains i = true) (hw : waitsOn md ops z i = true)
    (hQ : ∀ c a w, Q (.panic c) (a.put oi.dst v) w → Q (.panic c) a w) (hy : YieldsIf P ops S oi v a) (hS : S w)
    (h : wpAnyZ P md ops Q S z fuel (listed.setIfInBounds i true) (a.put oi.dst v) w) : wpAnyZ P md ops Q S z (fuel + 1) listed a w :=
  wpAnyZ_first hi (Region.noSelect_spec hs) hQ hw fuel listed a w (Region.free_spec hi hf) (by simpa using hr) hy hS h
theorem wpAnyZ_ready {i : Nat} {fuel : Nat} {listed : Array Bool} {a : Act} {w : World} {o : Oper} (hr : Region.ready md ops listed = [i]) (ho : ops[i]? = some o)
    (h : ∀ K' : Act → World → Prop, Shut (∀ a w, S w → (S w → wpAnyZ P md ops Q S z fuel (listed.setIfInBounds i true) a w) → K' a w) → if Region.wanted o (yielded ops a.tmps) = true then Oper.wp P o a w K' Q else K' (a.put o.dst undef) w) :
    wpAnyZ P md ops Q S z (fuel + 1) listed a w :=
  ⟨fun h0 => absurd (hr.symm.trans h0) (by simp), by
    rw [hr]
    intro j hj
    rcases List.mem_singleton.1 hj with rfl
    exact wpOp_step ho (fun K' hK => h K' (fun a w hS hW => hK a w ⟨.inr hS, hW hS⟩))⟩
theorem wpAnyZ_last {i : Nat} {fuel : Nat} {listed : Array Bool} {a : Act} {w : World} {o : Oper} (hz : i = z) (hr : Region.ready md ops listed = [i]) (hr2 : Region.ready md ops (listed.setIfInBounds i true) = []) (ho : ops[i]? = some o)
    (h : ∀ K' : Act → World → Prop, Shut (∀ a w, Q .normal a w → K' a w) → if Region.wanted o (yielded ops a.tmps) = true then Oper.wp P o a w K' Q else K' (a.put o.dst undef) w) :
    wpAnyZ P md ops Q S z (fuel + 1) listed a w :=
  ⟨fun h0 => absurd (hr.symm.trans h0) (by simp), by
    rw [hr]
    intro j hj
    rcases List.mem_singleton.1 hj with rfl
    refine wpOp_step ho (fun K' hK => h K' (fun a w hq => hK a w ⟨.inl hz, ?_⟩))
    cases fuel with
    | zero => exact ⟨hr2, hq⟩
    | succ n => exact ⟨fun _ => hq, by rw [hr2]; intro k hk; exact absurd hk List.not_mem_nil⟩⟩
theorem wp_region_Z {id : Nat} {a : Act} {w : World} (z : Nat) (hm : P.follows .mixedOrders = true) (S : World → Prop) (hS : S w.drew)
    (h : S w.drew → wpAnyZ P .any ops Q S z ops.size (Array.replicate ops.size false) a w.drew) : (Code.region id ops true).wp P Q a w :=
  wp_region_any hm (wpAny_of_Z _ _ _ _ (h hS))
/-- .. in a function that defers: it must not panic -/
theorem wp_region_ZN {id : Nat} {a : Act} {w : World} (z : Nat) (hm : P.follows .mixedOrders = true) (S : World → Prop) (hS : S w.drew)
    (h : S w.drew → wpAnyZ P .any ops (NoPanic Q) S z ops.size (Array.replicate ops.size false) a w.drew) : (Code.region id ops true).wp P Q a w :=
  wp_region_noPanic (wp_region_Z z hm S hS h)
theorem region_round_Z {id : Nat} {a : Act} {w : World} {l n : Nat} (z : Nat) (hnd : ops.all noDefer = true) (hQ : ∀ a w, ¬ Q .outgrown a w) (hm : P.follows .mixedOrders = true)
    (S : World → Prop) (hS : S w.drew) (h : S w.drew → wpAnyZ P .any ops Q S z ops.size (Array.replicate ops.size false) a w.drew) : (Code.region id ops true).wpIn (Fence.wide.inRound l) n P Q a w :=
  region_round hnd hQ hm (wpAny_of_Z _ _ _ _ (h hS))
end
end Go.Proofs.Ytpmhdjiacgckjaa
end
