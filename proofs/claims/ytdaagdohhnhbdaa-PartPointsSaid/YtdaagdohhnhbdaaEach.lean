/- Contracts of span.Each and of the iterator that it gives. Condition: a list of fewer than 2^37 spans, whose numbers are ints; the loop's body keeps whatever is not its own. -/
import Derived.Test.YtdaagdohhnhbdaaLift
import Derived.RangeFuncNested
import Derived.RangeFuncBound
import Derived.RangeFuncCalls
import Derived.RangeFuncLeaves
import Derived.Shelf.Abstract
import Derived.Shelf.RegionOpen
import Derived.OwnWalkIn
import Derived.TacticsInMore
import Derived.LoopNIn
import Derived.LoopIn
import Derived.Deep.RegionHeld
namespace Go.Proofs.Ytdaagdohhnhbdaa
open Go.RowKit Go.Shelf
set_option linter.unusedVariables false
attribute [local go_sem] Oper.semAt_some

/-- the numbers of a span, of a list of spans, rising -/
def numsOf (p : Sp) : List Int := (List.range (p.2 - p.1 + 1).toNat).map fun i : Nat => p.1 + (i : Int)
def nums (r : List Sp) : List Int := r.flatMap numsOf
theorem numsOf_length (p : Sp) : (numsOf p).length = (p.2 - p.1 + 1).toNat := by simp [numsOf]
theorem nums_cons (p : Sp) (r : List Sp) : nums (p :: r) = numsOf p ++ nums r := rfl
theorem nums_append (r s : List Sp) : nums (r ++ s) = nums r ++ nums s := by simp [nums]
theorem nums_length {a : Int} {r : List Sp} (h : PlainF a r) : ((nums r).length : Int) = cnt r := by
  induction r generalizing a with
  | nil => rfl
  | cons p r ih =>
    obtain ⟨h1, h2, h3, h4⟩ := h
    rw [nums_cons, List.length_append, numsOf_length, cnt_cons, ← ih h4]
    omega
theorem nums_get {a : Int} {r : List Sp} (h : PlainF a r) (i : Nat) : (nums r)[i]? = nthS r i := by
  induction r generalizing a i with
  | nil => simp [nums, nthS]
  | cons p r ih =>
    obtain ⟨h1, h2, h3, h4⟩ := h
    rw [nums_cons]
    simp only [nthS]
    by_cases hi : (i : Int) < p.2 - p.1 + 1
    · rw [if_pos hi, List.getElem?_append_left (by rw [numsOf_length]; omega)]
      unfold numsOf
      rw [List.getElem?_map, List.getElem?_range (by omega)]
      rfl
    · rw [if_neg hi, List.getElem?_append_right (by rw [numsOf_length]; omega), ih h4, numsOf_length]
      congr 1
      omega

/-- what a loop's body may write: its variables' boxes, and the row that one of them holds -/
def OwnB (lo hi Bu : Nat) (W : World) (k : Nat) : Prop := (lo ≤ k ∧ k < hi) ∨ ∃ off n c, W.cell? ⟨Bu, 0, none⟩ = some (.slice (some ⟨k, off, none⟩) n c)
/-- .. and nothing else -/
structure KpB (lo hi Bu : Nat) (W W' : World) : Prop where
  size : W.heap.size ≤ W'.heap.size
  cell : ∀ (p : Addr) v, W.cell? p = some v → ¬ OwnB lo hi Bu W p.block → W'.cell? p = some v
  own : ∀ k, OwnB lo hi Bu W' k → OwnB lo hi Bu W k ∨ W.heap.size ≤ k
  wf : (∀ k, OwnB lo hi Bu W k → k < W.heap.size) → (∀ k, OwnB lo hi Bu W' k → k < W'.heap.size)
section
variable {lo hi Bu : Nat} {A B C W W' : World}
theorem OwnB.congr (h : W'.cell? ⟨Bu, 0, none⟩ = W.cell? ⟨Bu, 0, none⟩) (k : Nat) : OwnB lo hi Bu W' k ↔ OwnB lo hi Bu W k := by unfold OwnB; rw [h]
theorem KpB.refl (W : World) : KpB lo hi Bu W W := ⟨Nat.le_refl _, fun _ _ h _ => h, fun _ h => .inl h, fun h => h⟩
theorem KpB.trans (h : KpB lo hi Bu A B) (k : KpB lo hi Bu B C) : KpB lo hi Bu A C := by
  refine ⟨Nat.le_trans h.size k.size, fun p v hv ho => ?_, fun j hj => ?_, fun hw => k.wf (h.wf hw)⟩
  · refine k.cell p v (h.cell p v hv ho) fun ho' => ?_
    rcases h.own _ ho' with h1 | h1
    · exact ho h1
    · have := World.block_lt_of_cell? A p hv; omega
  · rcases k.own j hj with h1 | h1
    · exact h.own j h1
    · exact .inr (Nat.le_trans h.size h1)
/-- where the box that may hold a row is as it was -/
theorem KpB.same (hs : W.heap.size ≤ W'.heap.size) (hc : ∀ (p : Addr) v, W.cell? p = some v → ¬ OwnB lo hi Bu W p.block → W'.cell? p = some v) (hb : W'.cell? ⟨Bu, 0, none⟩ = W.cell? ⟨Bu, 0, none⟩) : KpB lo hi Bu W W' :=
  ⟨hs, hc, fun k hk => .inl ((OwnB.congr hb k).1 hk), fun hw k hk => Nat.lt_of_lt_of_le (hw k ((OwnB.congr hb k).1 hk)) hs⟩
theorem KpB.setCell (b : Nat) (v : Value) (h1 : lo ≤ b) (h2 : b < hi) (hne : b ≠ Bu) : KpB lo hi Bu W (W.setCell ⟨b, 0, none⟩ v) := by
  refine KpB.same (by simp) (fun p u hu ho => ?_) ?_
  · rw [World.cell?_setCell_far _ _ _ _ (fun e => ho (.inl (by rw [← e]; exact ⟨h1, h2⟩)))]; exact hu
  · exact World.cell?_setCell_far _ _ _ _ hne
theorem KpB.below {n : Nat} (h : Below n W W') (hn : W.heap.size ≤ n) (hb : Bu < W.heap.size) : KpB lo hi Bu W W' :=
  KpB.same h.size (fun p u hu _ => (h.cell (Nat.lt_of_lt_of_le (World.block_lt_of_cell? W p hu) hn)).trans hu) (h.cell (Nat.lt_of_lt_of_le hb hn))
theorem kpB_t (h : KpB lo hi Bu A B) (k : KpB lo hi Bu B C) : KpB lo hi Bu A C := h.trans k
theorem kpB_b {w : World} (hb : Bu < w.heap.size) (W : World) (l : Nat) (o o' : Obj) (hl : w.heap.size ≤ l) (h : W.heap[l]? = some o) (hc : o.isCells = false) (_ : o.isWalk = false) : KpB lo hi Bu W (W.putObj l o') := by
  have hlt := (Array.getElem?_eq_some_iff.1 h).1
  have hb2 := belowK_b (n₀ := w.heap.size) (Nat.le_refl _) W l o o' hl h hc (by assumption)
  refine KpB.same hb2.size (fun p u hu _ => ?_) (hb2.cell (p := ⟨Bu, 0, none⟩) hb)
  have hne : p.block ≠ l := by
    intro e
    unfold World.cell? at hu
    rw [e, h] at hu
    cases o <;> simp_all [Obj.isCells]
  have hg := grownBy_putObj' W l o'
  rw [← hu]
  exact World.cell?_of_block (hg.block p.block (World.block_lt_of_cell? W p hu) (fun e => hne (by simpa using e)))
end

set_option maxRecDepth 100000 in
set_option maxHeartbeats 4000000 in
theorem Each_any (A : Option Addr) (n c : Nat) (l r : List Sp) (w : World) (h : Spans w A n l) (hw : SpW l) (hn : n < 137438953472) (hr : Rep r (Mem l)) :
    Calls Try.prog 74 #[.slice A n c] w fun e w' => ∃ B g c1, e = .returned (.func (.func 100) #[] #[.pointer (some ⟨B, 0, none⟩)]) ∧ (w.heap.size ≤ B ∧ B < w'.heap.size ∧ w.heap.size ≤ g ∧ g < B) ∧
      w'.cell? ⟨B, 0, none⟩ = some (.slice (some ⟨g, 0, none⟩) r.length c1) ∧ Spans w' (some ⟨g, 0, none⟩) r.length r ∧ Below w.heap.size w w' := by
  have HN := Lib.hid (Norm_any A n c l w h hw (by omega))
  have HR := Lib.hid hr
  clear h hr
  go_enter Try.func74, Try.ntmps74
  go_wp2_with fail
  refine HN.out.mono ?_
  rintro e w1 ⟨r', ho, hr', hrl⟩
  obtain rfl : r' = r := Rep.unique hr' HR.out (fun _ => Iff.rfl)
  obtain ⟨g1, c1, rfl, hg1, hc1, hm1, hrow1, hb1⟩ := ho.shape
  have hlt1 := (hrow1.lt g1 rfl).2
  have HRow1 := Lib.hid hrow1
  have HB1 := Lib.hid hb1
  clear ho hrow1 hb1 hr' HN
  go_wp2_with fail
  go_ret
  have hs1 : Spans w1 (some ⟨g1, 0, none⟩) r'.length r' := Sl.of_own HRow1.out
  refine ⟨w1.heap.size, g1, c1, rfl, ⟨HB1.out.size, by simp, hg1, hlt1⟩, ?_, hs1.alloc _, HB1.out.alloc HB1.out.size _⟩
  have hb := heap_alloc_new w1 (.cells #[.slice (some ⟨g1, 0, none⟩) r'.length c1] 24)
  simp only [World.cell?, hb]
  rfl

theorem numsOf_take (x1 x2 : Int) (m : Nat) (hm : (m : Int) < x2 - x1 + 1) : (List.range (m + 1)).map (fun i : Nat => x1 + (i : Int)) = (List.range m).map (fun i : Nat => x1 + (i : Int)) ++ [x1 + (m : Int)] := by
  rw [List.range_succ, List.map_append]; rfl
theorem nums_done (r : List Sp) (k : Nat) (x1 x2 : Int) (h : r[k]? = some (x1, x2)) (m : Nat) (hm : (m : Int) = x2 - x1 + 1) : nums (r.take k) ++ (List.range m).map (fun i : Nat => x1 + (i : Int)) = nums (r.take (k + 1)) := by
  rw [take_snoc? h, nums_append]
  congr 1
  have e : m = (x2 - x1 + 1).toNat := by omega
  subst e
  simp [nums, numsOf]
theorem nums_part (r : List Sp) (k : Nat) (x1 x2 : Int) (h : r[k]? = some (x1, x2)) (m : Nat) (hm : (m : Int) ≤ x2 - x1 + 1) : nums (r.take k) ++ (List.range m).map (fun i : Nat => x1 + (i : Int)) <+: nums r := by
  have e : r = r.take k ++ (x1, x2) :: r.drop (k + 1) := by rw [← drop_cons? h, List.take_append_drop]
  have e2 : nums r = nums (r.take k) ++ (numsOf (x1, x2) ++ nums (r.drop (k + 1))) := by
    have := congrArg nums e
    rw [nums_append, nums_cons] at this
    exact this
  rw [e2]
  refine (List.prefix_append_right_inj _).2 (List.IsPrefix.trans ?_ (List.prefix_append _ _))
  unfold numsOf
  exact List.IsPrefix.map _ ⟨List.range' m ((x2 - x1 + 1).toNat - m), by rw [List.range_eq_range', List.range_eq_range']; have := List.range'_append_1 (s := 0) (m := m) (n := (x2 - x1 + 1).toNat - m); rw [Nat.zero_add] at this; rw [this]; congr 1; omega⟩

set_option maxRecDepth 100000 in
set_option maxHeartbeats 8000000 in
/-- the iterator: for every body that keeps whatever is not its own, the numbers, rising -/
theorem each_in (F : Fence) (n : Nat) (hF : F.fn 100) (hro : F.round = none) (hn : 1 ≤ n) (l lo hi Bu B g c : Nat) (r : List Sp) (hp : Plain r) (J Jx : List Int → World → Prop)
    (hY : ∀ pre x W, J pre W → pre.length < (nums r).length → YieldAt F (n - 1) Try.prog l #[.int .i64 x] W fun e W' =>
      (e = .returned (.bool true) ∧ J (pre ++ [x]) W' ∧ KpB lo hi Bu W W') ∨ (e = .returned (.bool false) ∧ Jx (pre ++ [x]) W'))
    (W : World) (hJ : AbidesFrom W.heap.size J) (hBu : Bu < W.heap.size) (hwf : ∀ k, OwnB lo hi Bu W k → k < W.heap.size) (hog : ¬ OwnB lo hi Bu W g) (hgW : g < W.heap.size)
    (hB : W.cell? ⟨B, 0, none⟩ = some (.slice (some ⟨g, 0, none⟩) r.length c)) (hS : Spans W (some ⟨g, 0, none⟩) r.length r) (h0 : J [] W) :
    CallsIn F n Try.prog 100 #[.func (.yield l) #[] #[], .pointer (some ⟨B, 0, none⟩)] W fun e W' => (∃ v, e = .returned v) ∧ ((∃ ys, ys = nums r ∧ J ys W') ∨ (∃ pre, pre <+: nums r ∧ Jx pre W')) := by
  have hlb := hp.len_le
  have HS := Lib.hid hS
  have HWF := Lib.hid hwf
  have HP := Lib.hid hp
  have HY := Lib.hid hY
  have HJ := Lib.hid hJ
  clear hS hwf hp hY hJ
  refine callsIn_of_wp Try.func100 rfl hF ?_ hro
  simp only [Try.ntmps100, List.size_toArray, List.length_cons, List.length_nil, Nat.reduceAdd, Nat.reduceSub, Array.replicate_succ, Array.replicate_zero, List.push_toArray, List.append_toArray, List.nil_append, List.cons_append]
  gi_wp2
  gi_loopw [4, 5, 8] (fun _ _ i wr => ∃ k : Nat, k ≤ r.length ∧ i = .int .i64 k ∧ J (nums (r.take k)) wr ∧ W.heap.size ≤ wr.heap.size ∧ Hid ((∀ j, OwnB lo hi Bu wr j → j < wr.heap.size) ∧ ¬ OwnB lo hi Bu wr g ∧ Spans wr (some ⟨g, 0, none⟩) r.length r)) (fun _ _ i _ => r.length - (intOf i).toNat)
  case atStart => exact ⟨0, Nat.zero_le _, rfl, h0, Nat.le_refl _, Lib.hid ⟨HWF.out, hog, HS.out⟩⟩
  case round =>
  obtain ⟨wq, rfl⟩ : ∃ wq : World, wq = wr := ⟨_, rfl⟩
  obtain ⟨k, hk, rfl, hJs, hsz, HH⟩ := hrel
  by_cases hlt : k < r.length
  · obtain ⟨x, hx⟩ : ∃ x, r[k]? = some x := ⟨_, List.getElem?_eq_getElem hlt⟩
    have hxb := PlainF.spw HP.out (Int.le_refl _) x (List.mem_of_getElem? hx)
    have hcs := (HH.out.2.2).at_ hlt
    obtain ⟨bb, off, p, hbo, hp2, hc1, hc2⟩ := hcs
    obtain rfl : p = x := by rw [hx] at hp2; exact (Option.some.inj hp2).symm
    obtain ⟨x1, x2⟩ := p
    simp only at hxb hc1 hc2
    have hbo2 : bb = g ∧ off = 0 := by injection hbo with e; injection e with e1 e2; exact ⟨e1.symm, e2.symm⟩
    obtain ⟨rfl, rfl⟩ := hbo2
    simp only [Nat.zero_add] at hc1 hc2
    have HX := Lib.hid hx
    have hgw := lt_of_cell hc1
    have hJ2 := HJ.out _ _ _ none hJs (World.grownBy_alloc wq (.cells #[.int .i64 x1, .int .i64 x2] 34) none) (fun r e => by cases e)
    clear hx hp2 hbo hJs
    obtain ⟨wo, hwo⟩ : ∃ wo : World, wq.alloc (.cells #[.int .i64 x1, .int .i64 x2] 34) = wo := ⟨_, rfl⟩
    have hbx : wo.cell? ⟨wq.heap.size, 1, none⟩ = some (.int .i64 x2) := by
      have hb := heap_alloc_new wq (.cells #[.int .i64 x1, .int .i64 x2] 34)
      rw [← hwo]; simp only [World.cell?, hb]; rfl
    have HI : Hid ((∀ j, OwnB lo hi Bu wo j → j < wo.heap.size) ∧ ¬ OwnB lo hi Bu wo bb ∧ Spans wo (some ⟨bb, 0, none⟩) r.length r ∧ ¬ OwnB lo hi Bu wo wq.heap.size) := by
      have hsame : ∀ j, OwnB lo hi Bu wo j ↔ OwnB lo hi Bu wq j := fun j => OwnB.congr (by rw [← hwo]; exact World.cell?_alloc_lt wq _ _ (Nat.lt_of_lt_of_le hBu hsz)) j
      refine ⟨fun j hj => ?_, fun h => HH.out.2.1 ((hsame _).1 h), hwo ▸ HH.out.2.2.alloc _, fun h => ?_⟩
      · have := HH.out.1 j ((hsame j).1 hj); rw [← hwo]; simp; omega
      · have := HH.out.1 _ ((hsame _).1 h); omega
    have hso : wo.heap.size = wq.heap.size + 1 := by rw [← hwo]; simp
    rw [hwo] at hJ2
    have HWO := Lib.hid hwo
    clear hwo
    gi_wp2
    rw [HWO.out]
    gi_loopw [5] (fun i wr => ∃ m : Nat, (m : Int) ≤ x2 - x1 + 1 ∧ i = .int .i64 (x1 + m) ∧ J (nums (r.take k) ++ (List.range m).map (fun i : Nat => x1 + (i : Int))) wr ∧ wo.heap.size ≤ wr.heap.size ∧ wr.cell? ⟨wq.heap.size, 1, none⟩ = some (.int .i64 x2) ∧ Hid ((∀ j, OwnB lo hi Bu wr j → j < wr.heap.size) ∧ ¬ OwnB lo hi Bu wr bb ∧ Spans wr (some ⟨bb, 0, none⟩) r.length r ∧ ¬ OwnB lo hi Bu wr wq.heap.size)) (fun i _ => (x2 + 1 - intOf i).toNat)
    case atStart => exact ⟨0, by omega, by simp, by simpa using hJ2, Nat.le_refl _, hbx, HI⟩
    case round =>
    obtain ⟨m, hm, rfl, hJm, hsi, hbi, HM⟩ := hrel
    by_cases hlt2 : x1 + (m : Int) ≤ x2
    · have hst := numsOf_take x1 x2 m (by omega)
      have hpre := nums_part r k x1 x2 HX.out (m + 1) (by omega)
      rw [hst, ← List.append_assoc] at hpre
      have HST := Lib.hid hst
      have HPRE := Lib.hid hpre
      obtain ⟨fn, tmps, assign, body, hy, hR⟩ := HY.out _ (x1 + (m : Int)) wr hJm (by have := hpre.length_le; rw [List.length_append] at this; simp at this ⊢; omega)
      clear hst hpre
      gi_wp2
      refine hR.mono ?_
      rintro e W3 (⟨rfl, hJ3, hk3⟩ | ⟨rfl, hJx3⟩)
      · have hbw := Nat.lt_of_lt_of_le hgw (Nat.le_trans (by omega : wq.heap.size ≤ wo.heap.size) hsi)
        have hbx3 := hk3.cell ⟨wq.heap.size, 1, none⟩ _ hbi HM.out.2.2.2
        have HM3 : Hid ((∀ j, OwnB lo hi Bu W3 j → j < W3.heap.size) ∧ ¬ OwnB lo hi Bu W3 bb ∧ Spans W3 (some ⟨bb, 0, none⟩) r.length r ∧ ¬ OwnB lo hi Bu W3 wq.heap.size) := by
          refine ⟨hk3.wf HM.out.1, fun h => ?_, ⟨HM.out.2.2.1.1, fun h => ?_⟩, fun h => ?_⟩
          · rcases hk3.own _ h with h1 | h1
            · exact HM.out.2.1 h1
            · omega
          · obtain ⟨b, o, he, hc⟩ := HM.out.2.2.1.2 h
            refine ⟨b, o, he, fun j u hu => hk3.cell _ _ (hc j u hu) ?_⟩
            have e1 : bb = b := by injection he with e; injection e
            rw [← e1]; exact HM.out.2.1
          · rcases hk3.own _ h with h1 | h1
            · exact HM.out.2.2.2 h1
            · omega
        have hs3 := hk3.size
        clear hk3
        gi_wp2
        go_roundw
        case rel => exact ⟨m + 1, by omega, by go_num, by rw [HST.out, ← List.append_assoc]; exact hJ3, by omega, hbx3, HM3⟩
        case measure => simp [intOf]; omega
      · gi_wp2
        refine bodyPost_ret (results_none rfl _ _ _) rfl ?_
        exact ⟨⟨_, rfl⟩, .inr ⟨_, HPRE.out, hJx3⟩⟩
    · obtain hme : (m : Int) = x2 - x1 + 1 := by omega
      have HN := Lib.hid (nums_done r k x1 x2 HX.out m hme)
      clear hme
      gi_wp2
      refine ⟨⟨k + 1, by omega, by go_num, by rw [← HN.out]; exact hJm, by omega, Lib.hid ⟨HM.out.1, HM.out.2.1, HM.out.2.2.1⟩⟩, by simp [intOf]; omega⟩
  · have hd : decide (k < r.length) = false := by simpa using hlt
    obtain rfl : k = r.length := by omega
    gi_wp2
    go_end0
    exact ⟨⟨_, rfl⟩, .inl ⟨_, by rw [List.take_length], hJs⟩⟩

theorem each_stops (F : Fence) (n : Nat) (hF : F.fn 100) (hro : F.round = none) (hn : 1 ≤ n) (lo hi Bu B g c : Nat) (r : List Sp) (hp : Plain r) (w : World) (hBu : Bu < w.heap.size) (hwf : ∀ k, OwnB lo hi Bu w k → k < w.heap.size) (hog : ¬ OwnB lo hi Bu w g)
    (hB : w.cell? ⟨B, 0, none⟩ = some (.slice (some ⟨g, 0, none⟩) r.length c)) (hg : g < w.heap.size) (hS : Spans w (some ⟨g, 0, none⟩) r.length r) :
    SeqStopsK F n Try.prog 100 #[.pointer (some ⟨B, 0, none⟩)] (fun x : Int => #[Value.int .i64 x]) (KpB lo hi Bu) (fun ys => ys = nums r) (fun pre => pre <+: nums r) (nums r).length w := fun l J Jx W hW hJ _ hY h0 => by
  have hs : ∀ j, OwnB lo hi Bu W j ↔ OwnB lo hi Bu w j := fun j => OwnB.congr (hW.cell (p := ⟨Bu, 0, none⟩) hBu) j
  exact each_in F n hF hro hn l lo hi Bu B g c r hp J Jx hY W hJ (Nat.lt_of_lt_of_le hBu hW.size) (fun k hk => Nat.lt_of_lt_of_le (hwf k ((hs k).1 hk)) hW.size) (fun h => hog ((hs g).1 h)) (Nat.lt_of_lt_of_le hg hW.size)
    ((hW.cell (lt_of_cell hB)).trans hB) (hS.below hW) h0
end Go.Proofs.Ytdaagdohhnhbdaa
