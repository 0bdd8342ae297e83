/- Contracts and plain laws that the proof leans on. Condition: as each theorem says. -/
import Derived.Test.YtlmkokeapbleoaaGreatP06
import Derived.Test.YtlmkokeapbleoaaGreatP05
import Derived.Test.YtlmkokeapbleoaaGreatP01
import Derived.Great.Walk
import Derived.Laws.BytesArg
import Derived.Laws.CopyOwn
set_option maxRecDepth 100000
set_option maxHeartbeats 64000000
set_option linter.unusedVariables false
set_option linter.unusedSimpArgs false
namespace Go.Proofs.YtlmkokeapbleoaaGreat
open Go.RowKit
section
open Go.Shelf
def blk (md : Region.Mode) (ops : Array Oper) (z : Nat) (Bk : List Nat) (listed : Array Bool) (i : Nat) : Bool :=
 (Bk.all fun k => !listed.getD k true && (waitsOn md ops k i || Bk.any fun k' => waitsOn md ops k k')) && (List.range listed.size).all fun j => decide (j < z) || Bk.contains j
def anyLate (z : Nat) (listed : Array Bool) : Bool := (List.range listed.size).any fun j => decide (z ≤ j) && listed.getD j false
def wpAnyY (P : Program) (md : Region.Mode) (ops : Array Oper) (Q : Exit → Act → World → Prop) (S S2 : World → Prop) (z : Nat) : Nat → Array Bool → Act → World → Prop
 | 0, listed, a, w => Region.ready md ops listed = [] ∧ Q .normal a w
 | fuel + 1, listed, a, w => (Region.ready md ops listed = [] → Q .normal a w) ∧
  ∀ i ∈ Region.ready md ops listed, wpOp P ops Q i (fun a' w' => (S2 w' ∧ (anyLate z (listed.setIfInBounds i true) = true ∨ S w')) ∧ wpAnyY P md ops Q S S2 z fuel (listed.setIfInBounds i true) a' w') a w
section
variable {P : Program} {ops : Array Oper} {Q : Exit → Act → World → Prop} {md : Region.Mode} {S S2 T : World → Prop} {z : Nat}
theorem wpAny_of_Y : ∀ (fuel : Nat) (listed : Array Bool) (a : Act) (w : World), wpAnyY P md ops Q S S2 z fuel listed a w → wpAny P md ops Q fuel listed a w
 | 0, _, _, _, h => h
 | fuel + 1, _, _, _, h => ⟨h.1, fun i hi => wpOp_mono (fun a' w' h' => wpAny_of_Y fuel _ a' w' h'.2) (h.2 i hi)⟩
theorem ready_unlisted {listed : Array Bool} {j k : Nat} {oj : Oper} (hk : listed.getD k true = false) (hj : j ∈ Region.ready md ops listed) (hoj : ops[j]? = some oj) : ∀ e ∈ oj.after, Region.binds md e = true → e.on ≠ k := fun e he hb heq => by
 obtain ⟨_, o, ho, hall⟩ := mem_ready.1 hj
 rw [hoj] at ho; injection ho with ho; subst ho
 have h7 := hall e he hb
 rw [heq] at h7
 rcases Nat.lt_or_ge k listed.size with hl | hl
 ·simp [hl] at hk h7; rw [hk] at h7; cases h7
 ·simp [Array.getElem?_eq_none hl] at h7
theorem anyLate_mono {listed : Array Bool} (j : Nat) (h : anyLate z listed = true) : anyLate z (listed.setIfInBounds j true) = true := by
 unfold anyLate at h ⊢
 rw [List.any_eq_true] at h ⊢
 obtain ⟨k, hk, he⟩ := h
 refine ⟨k, by simpa using hk, ?_⟩
 simp only [Bool.and_eq_true, decide_eq_true_eq] at he ⊢
 refine ⟨he.1, ?_⟩
 have hl : k < listed.size := by simpa using hk
 by_cases hjk : j = k
 ·subst hjk; simp [Array.getD, hl]
 ·rw [getD_set_ne false hjk]; exact he.2
theorem anyLate_set {listed : Array Bool} {j : Nat} (hz : j < z) (h : anyLate z (listed.setIfInBounds j true) = true) : anyLate z listed = true := by
 unfold anyLate at h ⊢
 rw [List.any_eq_true] at h ⊢
 obtain ⟨k, hk, he⟩ := h
 refine ⟨k, by simpa using hk, ?_⟩
 simp only [Bool.and_eq_true, decide_eq_true_eq] at he ⊢
 refine ⟨he.1, ?_⟩
 rw [getD_set_ne false (by omega : j ≠ k)] at he
 exact he.2
theorem blk_late {Bk : List Nat} {listed : Array Bool} {i : Nat} (h : blk md ops z Bk listed i = true) : anyLate z listed = false := by
 rcases hl : anyLate z listed with _ | _
 ·rfl
 ·exfalso
  unfold anyLate at hl
  rw [List.any_eq_true] at hl
  obtain ⟨k, hk, he⟩ := hl
  simp only [Bool.and_eq_true, decide_eq_true_eq] at he
  unfold blk at h
  rw [Bool.and_eq_true, List.all_eq_true, List.all_eq_true] at h
  have h1 := h.2 k hk
  simp only [Bool.or_eq_true, decide_eq_true_eq] at h1
  have hm := h1.resolve_left (by omega)
  have h2 := h.1 k (by simpa using hm)
  rw [Bool.and_eq_true] at h2
  have hkl : k < listed.size := List.mem_range.1 hk
  have h3 := h2.1
  have h4 := he.2
  simp [Array.getD, hkl] at h3 h4
  rw [h3] at h4; cases h4
theorem blk_not {Bk : List Nat} {listed : Array Bool} {i j : Nat} {oj : Oper} (h : blk md ops z Bk listed i = true) (hi : listed.getD i true = false) (hj : j ∈ Region.ready md ops listed) (hoj : ops[j]? = some oj) : j ∉ Bk := fun hm => by
 unfold blk at h
 rw [Bool.and_eq_true, List.all_eq_true] at h
 have h2 := h.1 j hm
 simp only [Bool.and_eq_true, Bool.or_eq_true, Bool.not_eq_true'] at h2
 rcases h2.2 with h3 | h3
 ·exact waits_not h3 hoj (ready_unlisted hi hj hoj)
 ·rw [List.any_eq_true] at h3
  obtain ⟨k, hk, hw⟩ := h3
  have h4 := h.1 k hk
  simp only [Bool.and_eq_true, Bool.or_eq_true, Bool.not_eq_true'] at h4
  exact waits_not hw hoj (ready_unlisted h4.1 hj hoj)
theorem blk_set {Bk : List Nat} {listed : Array Bool} {i j : Nat} (h : blk md ops z Bk listed i = true) (hj : j ∉ Bk) : blk md ops z Bk (listed.setIfInBounds j true) i = true := by
 unfold blk at h ⊢
 rw [Bool.and_eq_true, List.all_eq_true, List.all_eq_true] at h ⊢
 refine ⟨fun k hk => ?_, fun k hk => h.2 k (by simpa using hk)⟩
 have hjk : j ≠ k := fun e => hj (by rw [e]; exact hk)
 rw [getD_set_ne true hjk]
 exact h.1 k hk
theorem wpAnyY_first {i : Nat} {oi : Oper} {v : Value} (hi : ops[i]? = some oi) (hsel : ∀ (j : Nat) (o : Oper) cs b, ops[j]? = some o → o.op ≠ .select cs b)
  (hQ : ∀ c a w, Q (.panic c) (a.put oi.dst v) w → Q (.panic c) a w) (Bk : List Nat) (hiz : i < z) :
  ∀ (fuel : Nat) (listed : Array Bool) (a : Act) (w : World), ((∀ w, S2 w → T w) ∨ ((∀ w, S w → T w) ∧ blk md ops z Bk listed i = true)) →
   (∀ j oj, ops[j]? = some oj → j ≠ i → listed.getD j true = false → (∀ e ∈ oj.after, Region.binds md e = true → e.on ≠ i) → oi.apart ops oj = true) →
   i ∈ Region.ready md ops listed → YieldsIf P ops T oi v a → S2 w → T w → (anyLate z listed = true ∨ S w) →
   wpAnyY P md ops Q S S2 z fuel (listed.setIfInBounds i true) (a.put oi.dst v) w → wpAnyY P md ops Q S S2 z (fuel + 1) listed a w := by
 intro fuel
 induction fuel with
 | zero =>
  intro listed a w hB _ hr hy hS2 hT hS H
  refine ⟨fun h => absurd hr (by rw [h]; exact List.not_mem_nil), fun j hj => ?_⟩
  by_cases hji : j = i
  ·subst hji; exact hy.wpOp hi hT ⟨⟨hS2, hS.imp (anyLate_mono _) id⟩, H⟩
  ·have h1 := ready_mono hj hji
   rw [H.1] at h1
   exact absurd h1 List.not_mem_nil
 | succ fuel ih =>
  intro listed a w hB hfree hr hy hS2 hT hS H
  refine ⟨fun h => absurd hr (by rw [h]; exact List.not_mem_nil), fun j hj => ?_⟩
  by_cases hji : j = i
  ·subst hji; exact hy.wpOp hi hT ⟨⟨hS2, hS.imp (anyLate_mono _) id⟩, H⟩
  have h1 := H.2 j (ready_mono hj hji)
  obtain ⟨hun, oj, hoj, hall⟩ := mem_ready.1 hj
  have hi0 := (mem_ready.1 hr).1
  have hnot := ready_unlisted hi0 hj hoj
  have h2 := wpOp_putIf hoj (hfree j oj hoj hji hun hnot) (fun cs b => hsel i oi cs b hi) (fun cs b => hsel j oj cs b hoj) hQ hy h1
  have hfree2 : ∀ k ok, ops[k]? = some ok → k ≠ i → (listed.setIfInBounds j true).getD k true = false → (∀ e ∈ ok.after, Region.binds md e = true → e.on ≠ i) → oi.apart ops ok = true := fun k ok hk hki hu hno => by
   refine hfree k ok hk hki ?_ hno
   by_cases hjk : j = k
   ·subst hjk; exact hun
   ·rw [getD_set_ne true hjk] at hu; exact hu
  refine wpOp_mono (fun a' w' h3 => ?_) h2
  have hS2' := h3.2.1.1
  have hL := h3.2.1.2
  rw [Array.setIfInBounds_comm _ _ (Ne.symm hji)] at hL
  have hL2 : anyLate z (listed.setIfInBounds j true) = true ∨ S w' := hL.imp (anyLate_set hiz) id
  have hB2 : (∀ w, S2 w → T w) ∨ ((∀ w, S w → T w) ∧ blk md ops z Bk (listed.setIfInBounds j true) i = true) := hB.imp id fun h => ⟨h.1, blk_set h.2 (blk_not h.2 hi0 hj hoj)⟩
  have hT2 : T w' := by
   rcases hB2 with h | ⟨h, hb⟩
   ·exact h _ hS2'
   ·refine h _ (hL2.resolve_left fun e => ?_)
    rw [blk_late hb] at e; cases e
  refine ⟨⟨hS2', hL2⟩, ih (listed.setIfInBounds j true) a' w' hB2 hfree2 (ready_mono hr (Ne.symm hji)) h3.1 hS2' hT2 hL2 ?_⟩
  rw [Array.setIfInBounds_comm _ _ hji]
  exact h3.2.2
theorem wpAnyY_take {i : Nat} {oi : Oper} {v : Value} {fuel : Nat} {listed : Array Bool} {a : Act} {w : World} (Bk : List Nat) (hi : ops[i]? = some oi)
  (hs : Region.noSelect ops = true) (hf : Region.free md ops listed i = true) (hr : (Region.ready md ops listed).contains i = true) (hw : blk md ops z Bk listed i = true) (hiz : Nat.blt i z = true)
  (hQ : ∀ c a w, Q (.panic c) (a.put oi.dst v) w → Q (.panic c) a w) (hy : YieldsIf P ops S oi v a) (hSS : ∀ w, S w → S2 w) (hS : S w)
  (h : wpAnyY P md ops Q S S2 z fuel (listed.setIfInBounds i true) (a.put oi.dst v) w) : wpAnyY P md ops Q S S2 z (fuel + 1) listed a w :=
 wpAnyY_first hi (Region.noSelect_spec hs) hQ Bk (by simpa using hiz) fuel listed a w (.inr ⟨fun _ h => h, hw⟩) (Region.free_spec hi hf) (by simpa using hr) hy (hSS _ hS) hS (.inr hS) h
theorem wpAnyY_take2 {i : Nat} {oi : Oper} {v : Value} {fuel : Nat} {listed : Array Bool} {a : Act} {w : World} (hi : ops[i]? = some oi)
  (hs : Region.noSelect ops = true) (hf : Region.free md ops listed i = true) (hr : (Region.ready md ops listed).contains i = true) (hiz : Nat.blt i z = true)
  (hQ : ∀ c a w, Q (.panic c) (a.put oi.dst v) w → Q (.panic c) a w) (hy : YieldsIf P ops S2 oi v a) (hSS : ∀ w, S w → S2 w) (hS : S w)
  (h : wpAnyY P md ops Q S S2 z fuel (listed.setIfInBounds i true) (a.put oi.dst v) w) : wpAnyY P md ops Q S S2 z (fuel + 1) listed a w :=
 wpAnyY_first hi (Region.noSelect_spec hs) hQ [] (by simpa using hiz) fuel listed a w (.inl fun _ h => h) (Region.free_spec hi hf) (by simpa using hr) hy (hSS _ hS) (hSS _ hS) (.inr hS) h
theorem wpAnyY_ready {i : Nat} {fuel : Nat} {listed : Array Bool} {a : Act} {w : World} {o : Oper} (hr : Region.ready md ops listed = [i]) (ho : ops[i]? = some o) (hSS : ∀ w, S w → S2 w)
  (h : ∀ K' : Act → World → Prop, Shut (∀ a w, S w → (S w → wpAnyY P md ops Q S S2 z fuel (listed.setIfInBounds i true) a w) → K' a w) → if Region.wanted o (yielded ops a.tmps) = true then Oper.wp P o a w K' Q else K' (a.put o.dst undef) w) :
  wpAnyY P md ops Q S S2 z (fuel + 1) listed a w :=
 ⟨fun h0 => absurd (hr.symm.trans h0) (by simp), by
  rw [hr]
  intro j hj
  rcases List.mem_singleton.1 hj with rfl
  exact wpOp_step ho (fun K' hK => h K' (fun a w hS hW => hK a w ⟨⟨hSS _ hS, .inr hS⟩, hW hS⟩))⟩
theorem wpAnyY_late {i : Nat} {fuel : Nat} {listed : Array Bool} {a : Act} {w : World} {o : Oper} (hz : anyLate z (listed.setIfInBounds i true) = true) (hr : Region.ready md ops listed = [i]) (ho : ops[i]? = some o)
  (h : ∀ K' : Act → World → Prop, Shut (∀ a w, S2 w → wpAnyY P md ops Q S S2 z fuel (listed.setIfInBounds i true) a w → K' a w) → if Region.wanted o (yielded ops a.tmps) = true then Oper.wp P o a w K' Q else K' (a.put o.dst undef) w) :
  wpAnyY P md ops Q S S2 z (fuel + 1) listed a w :=
 ⟨fun h0 => absurd (hr.symm.trans h0) (by simp), by
  rw [hr]
  intro j hj
  rcases List.mem_singleton.1 hj with rfl
  exact wpOp_step ho (fun K' hK => h K' (fun a w h2 hW => hK a w ⟨⟨h2, .inl hz⟩, hW⟩))⟩
theorem wpAnyY_last {i : Nat} {fuel : Nat} {listed : Array Bool} {a : Act} {w : World} {o : Oper} (hz : anyLate z (listed.setIfInBounds i true) = true) (hr : Region.ready md ops listed = [i]) (hr2 : Region.ready md ops (listed.setIfInBounds i true) = []) (ho : ops[i]? = some o)
  (h : ∀ K' : Act → World → Prop, Shut (∀ a w, S2 w → Q .normal a w → K' a w) → if Region.wanted o (yielded ops a.tmps) = true then Oper.wp P o a w K' Q else K' (a.put o.dst undef) w) :
  wpAnyY P md ops Q S S2 z (fuel + 1) listed a w :=
 ⟨fun h0 => absurd (hr.symm.trans h0) (by simp), by
  rw [hr]
  intro j hj
  rcases List.mem_singleton.1 hj with rfl
  refine wpOp_step ho (fun K' hK => h K' (fun a w h2 hq => hK a w ⟨⟨h2, .inl hz⟩, ?_⟩))
  cases fuel with
  | zero => exact ⟨hr2, hq⟩
  | succ n => exact ⟨fun _ => hq, by rw [hr2]; intro k hk; exact absurd hk List.not_mem_nil⟩⟩
end
theorem yt {P : Program} {md : Region.Mode} {ops : Array Oper} {Q : Exit → Act → World → Prop} {S S2 : World → Prop} {z : Nat} (i : Nat) {oi : Oper} {v : Value} {fuel : Nat} {listed : Array Bool} {a : Act} {w : World} (hi : ops[i]? = some oi) (hy : ∀ w, S2 w → (execOp a.eval oi).run P w = .ok (.value v) w) (hSS : ∀ w, S w → S2 w)
 (h : wpAnyY P md ops Q S S2 z fuel (listed.setIfInBounds i true) (a.put oi.dst v) w) (hs : Region.noSelect ops = true := by kernel_rfl) (hf : Region.free md ops listed i = true := by kernel_rfl) (hr : (Region.ready md ops listed).contains i = true := by kernel_rfl) (hiz : Nat.blt i z = true := by kernel_rfl)
 (hQ : ∀ c a w, Q (.panic c) (a.put oi.dst v) w → Q (.panic c) a w := by exact fun _ _ _ h => h) (hwt : Region.wanted oi (yielded ops a.tmps) = true := by first | kernel_rfl | rfl) (hS : S w := by assumption) : wpAnyY P md ops Q S S2 z (fuel + 1) listed a w :=
 wpAnyY_take2 hi hs hf hr hiz hQ (.inl ⟨hwt, hy⟩) hSS hS h
theorem yk {P : Program} {md : Region.Mode} {ops : Array Oper} {Q : Exit → Act → World → Prop} {S S2 : World → Prop} {z : Nat} (i : Nat) {oi : Oper} {v : Value} {fuel : Nat} {listed : Array Bool} {a : Act} {w : World} (Bk : List Nat) (hi : ops[i]? = some oi) (hy : ∀ w, S w → (execOp a.eval oi).run P w = .ok (.value v) w) (hSS : ∀ w, S w → S2 w)
 (h : wpAnyY P md ops Q S S2 z fuel (listed.setIfInBounds i true) (a.put oi.dst v) w) (hs : Region.noSelect ops = true := by kernel_rfl) (hf : Region.free md ops listed i = true := by kernel_rfl) (hr : (Region.ready md ops listed).contains i = true := by kernel_rfl) (hw : blk md ops z Bk listed i = true := by kernel_rfl) (hiz : Nat.blt i z = true := by kernel_rfl)
 (hQ : ∀ c a w, Q (.panic c) (a.put oi.dst v) w → Q (.panic c) a w := by exact fun _ _ _ h => h) (hwt : Region.wanted oi (yielded ops a.tmps) = true := by first | kernel_rfl | rfl) (hS : S w := by assumption) : wpAnyY P md ops Q S S2 z (fuel + 1) listed a w :=
 wpAnyY_take Bk hi hs hf hr hw hiz hQ (.inl ⟨hwt, hy⟩) hSS hS h
end
section
def zeroT : Array Value := (List.replicate 256 (Value.int .u8 0) ++ [Value.slice none 0 0, Value.slice none 0 0, Value.slice none 0 0]).toArray
def zeroTab : TabI := ⟨List.replicate 256 0, none, 0, [], none, 0, [], none, 0, []⟩
theorem zrep_at (n : Nat) (tl : List Value) (i : Nat) (x : Int) (h : (List.replicate n (0 : Int))[i]? = some x) : (List.replicate n (Value.int .u8 0) ++ tl).toArray[i]? = some (Value.int .u8 x) := by
 obtain ⟨hi, hx⟩ := List.getElem?_eq_some_iff.1 h
 rw [List.getElem_replicate] at hx
 subst hx
 rw [List.length_replicate] at hi
 rw [List.getElem?_toArray, List.getElem?_append_left (by simpa using hi), List.getElem?_replicate, if_pos hi]
theorem zeroT_size : zeroT.size = 259 := by kernel_rfl
theorem zeroT_C : TabC zeroT zeroTab := by
 refine ⟨zeroT_size, List.length_replicate, fun x hx => ?_, fun i x hx => ?_, by kernel_rfl, by kernel_rfl, by kernel_rfl⟩
 ·have := List.eq_of_mem_replicate hx; omega
 ·exact zrep_at 256 _ i x hx
theorem info_tabZ : (Tryz.prog.info? 49).map (fun i => i.zero) = some (some (.agg zeroT)) := by kernel_rfl
theorem info_tabS : (Tryz.prog.info? 49).map (·.size) = some 259 := by kernel_rfl
theorem info_tabS' : (Tryz.prog.info? 49).map (·.size) = some zeroT.size := by rw [zeroT_size]; exact info_tabS
theorem built_tab : Tryz.prog.built 49 [] = some zeroT := by kernel_rfl
section
variable {P : Program} {w : World} {ops : Array Oper} {rest : List Oper} {o : Oper} {a : Act} {Q : Exit → Act → World → Prop}
theorem wpList_allocZ (hgd : o.guard = none) (t : TypeId) (ho : o.op = .alloc t) (cs : Array Value) (hz : (P.info? t).map (fun i => i.zero) = some (some (.agg cs)))
  (h : wpList P ops Q rest (a.put o.dst (.pointer (some ⟨w.heap.size, 0, none⟩))) (w.alloc (.cells cs t))) : wpList P ops Q (o :: rest) a w := by
 refine Great.wpList_runTo hgd o.dst rfl _ _ ?_ h
 cases hq : P.info? t with
 | none => simp [hq] at hz
 | some i =>
  have hzz : i.zero = some (.agg cs) := by simpa [hq] using hz
  unfold execOp
  simp [ho, Instr.alloc, zeroValue, typeInfo, hq, hzz, newVar, newRow, Value.cells]
end
section
variable {P : Program} {w : World} {ops : Array Oper} {rest : List Oper} {o : Oper} {a : Act} {Q : Exit → Act → World → Prop}
theorem wpList_buildZ (hgd : o.guard = none) (t : TypeId) (ho : o.op = .build t #[]) (cs : Array Value) (hz : P.built t [] = some cs)
  (h : wpList P ops Q rest (a.put o.dst (.agg cs)) w) : wpList P ops Q (o :: rest) a w := by
 refine wpList_build hgd t #[] ho (by simp [hz]) ?_
 simpa [hz] using h
theorem wpList_load_rowG (hw : Region.wanted o (yielded ops a.tmps) = true) (ty : TypeId) (x : Operand) (ho : o.op = .load ty x) (g : Nat) (hx : a.eval x = .pointer (some ⟨g, 0, none⟩))
  (t : TypeId) (cs : Array Value) (fr : Nat × Nat) (d : TypeDesc) (hg : w.heap[g]? = some (.cells cs t fr))
  (hu : P.underlying ty = some d) (hd : (match d with | .struct _ | .array _ _ => true | _ => false) = true) (hi : (P.info? ty).map (·.size) = some cs.size)
  (h : wpList P ops Q rest (a.put o.dst (.agg cs)) w) : wpList P ops Q (o :: rest) a w :=
 wpList_step fun K hK => by rw [if_pos hw]; exact wp_load_row ty x ho g hx t cs fr d hg hu hd hi (hK _ _ h)
end
theorem results_row2 {P : Program} {fn : Func} {p q : Tmp} {ty : TypeId} (h : fn.results = #[.cell p ty, .tmp q]) (tmps : Array Value) (w : World) (g : Nat) (t : TypeId) (cs : Array Value) (fr : Nat × Nat) (d : TypeDesc) (v : Value)
  (hp : tmps.getD p undef = .pointer (some ⟨g, 0, none⟩)) (hq : tmps.getD q undef = v) (hg : w.heap[g]? = some (.cells cs t fr))
  (hu : P.underlying ty = some d) (hd : (match d with | .struct _ | .array _ _ => true | _ => false) = true) (hi : (P.info? ty).map (·.size) = some cs.size) :
  (results fn tmps).run P w = .ok (.tuple #[.agg cs, v]) w := by
 have hp' : tmps[p]?.getD undef = .pointer (some ⟨g, 0, none⟩) := by simpa using hp
 have hq' : tmps[q]?.getD undef = v := by simpa using hq
 simp [results, h, hp', hq', asAddr, run_loadVar_row w g t ty cs fr d hg hu hd hi]
theorem cells_one {cs : Array Value} {T : TabI} (h : TabC cs T) : cs.all (·.oneCell') = true := by
 refine Array.all_eq_true.2 fun i hi => ?_
 have hs := h.size
 have hg : cs[i]? = some cs[i] := Array.getElem?_eq_getElem hi
 by_cases h1 : i < 256
 ·have hx : T.cls[i]? = some (T.cls[i]'(by rw [h.ln]; exact h1)) := List.getElem?_eq_getElem _
  rw [h.cl i _ hx] at hg
  injection hg with hg
  rw [← hg]; rfl
 ·by_cases h2 : i = 256
  ·subst h2; rw [h.c1] at hg; injection hg with hg; rw [← hg]; rfl
  ·by_cases h3 : i = 257
   ·subst h3; rw [h.c2] at hg; injection hg with hg; rw [← hg]; rfl
   ·obtain rfl : i = 258 := by omega
    rw [h.c3] at hg; injection hg with hg; rw [← hg]; rfl
end
section
open Go.Shelf
theorem wp_region_Y {P : Program} {ops : Array Oper} {Q : Exit → Act → World → Prop} {id : Nat} {a : Act} {w : World} (z : Nat) (hm : P.follows .mixedOrders = true) (S S2 : World → Prop) (hS : S w.drew)
  (h : S w.drew → wpAnyY P .any ops Q S S2 z ops.size (Array.replicate ops.size false) a w.drew) : (Code.region id ops true).wp P Q a w :=
 wp_region_any hm (wpAny_of_Y _ _ _ _ (h hS))
theorem nodeC_one (x : NodeI) : ∀ u ∈ nodeC x, u.oneCell' = true := by simp [nodeC, Value.oneCell']
theorem actC_one (x : ActI) : ∀ u ∈ actC x, u.oneCell' = true := fun u hu => by
 simp only [actC, List.mem_cons, List.not_mem_nil, or_false] at hu
 rcases hu with rfl | rfl | rfl <;> rfl
theorem tyNA : (64 : TypeId) ≠ 59 := by decide
theorem tyNT : (64 : TypeId) ≠ 57 := by decide
theorem tyAT' : (59 : TypeId) ≠ 57 := by decide
theorem outV_one (x : OutI) : ∀ u ∈ [OutI.v x], u.oneCell' = true := fun u hu => by rw [List.mem_singleton] at hu; subst hu; rfl
theorem small_parts {T : TabI} (h : SmallT T.L) : (∀ a ∈ T.acts, ∀ t ∈ a.o.l, t.ps.length ≤ 1048576) ∧ (∀ o ∈ T.es, ∀ t ∈ o.l, t.ps.length ≤ 1048576) := by
 have hone : ∀ (l : List TermL) (t : TermL), t ∈ l → sizeL l ≤ 80000 → t.parts.length ≤ 1048576 := by
  intro l t ht hs
  unfold sizeL at hs
  split at hs
  ·omega
  ·have h1 : one17 t ≤ (l.map one17).sum := by
    have : ∀ (l : List TermL), t ∈ l → one17 t ≤ (l.map one17).sum := by
     intro l
     induction l with
     | nil => intro h; cases h
     | cons x l ih =>
      intro h
      rw [List.map_cons, List.sum_cons]
      rcases List.mem_cons.1 h with rfl | h
      ·omega
      ·have := ih h; omega
    exact this l ht
   have h2 : 1 + min t.parts.length 90000 ≤ (l.map one17).sum := h1
   omega
 have hsum : ∀ (l : List Nat) (x : Nat), x ∈ l → x ≤ l.sum := by
  intro l
  induction l with
  | nil => intro x h; cases h
  | cons y l ih =>
   intro x h
   rw [List.sum_cons]
   rcases List.mem_cons.1 h with rfl | h
   ·omega
   ·have := ih x h; omega
 have h4 := h.2.2.2
 unfold sumT at h4
 refine ⟨fun a ha t ht => ?_, fun o ho t ht => ?_⟩
 ·have h5 := hsum (T.L.acts.map fun a => sizeL a.out) (sizeL a.L.out) (List.mem_map.2 ⟨a.L, List.mem_map.2 ⟨a, ha, rfl⟩, rfl⟩)
  exact hone a.L.out t.L (List.mem_map.2 ⟨t, ht, rfl⟩) (by omega)
 ·have h5 := hsum (T.L.ends.map sizeL) (sizeL o.L) (List.mem_map.2 ⟨o.L, List.mem_map.2 ⟨o, ho, rfl⟩, rfl⟩)
  exact hone o.L t.L (List.mem_map.2 ⟨t, ht, rfl⟩) (by omega)
def putT (cs : Array Value) (v1 v2 v3 : Value) : Array Value := ((cs.setIfInBounds 256 v1).setIfInBounds 257 v2).setIfInBounds 258 v3
theorem putT_C {cs : Array Value} {T : TabI} (h : TabC cs T) (na : Option Addr) (nc : Nat) (ns : List NodeI) (aa : Option Addr) (ac : Nat) (acts : List ActI) (ea : Option Addr) (ec : Nat) (es : List OutI) :
  TabC (putT cs (.slice na ns.length nc) (.slice aa acts.length ac) (.slice ea es.length ec)) ⟨T.cls, na, nc, ns, aa, ac, acts, ea, ec, es⟩ := by
 have hs := h.size
 unfold putT
 refine ⟨by simp [hs], h.ln, h.u8, fun i x hx => ?_, ?_, ?_, ?_⟩
 ·have hx' : T.cls[i]? = some x := hx
  have hi := (List.getElem?_eq_some_iff.1 hx').1
  rw [h.ln] at hi
  rw [Array.getElem?_setIfInBounds_ne (by omega), Array.getElem?_setIfInBounds_ne (by omega), Array.getElem?_setIfInBounds_ne (by omega)]
  exact h.cl i x hx'
 ·rw [Array.getElem?_setIfInBounds_ne (by omega), Array.getElem?_setIfInBounds_ne (by omega), Array.getElem?_setIfInBounds_self_of_lt (by omega)]
 ·rw [Array.getElem?_setIfInBounds_ne (by omega), Array.getElem?_setIfInBounds_self_of_lt (by simp; omega)]
 ·rw [Array.getElem?_setIfInBounds_self_of_lt (by simp; omega)]
structure FillK {α β : Type} (base : Nat) (E : TypeId) (size : Nat) (f : α → List Value) (R : α → World → Prop) (L : α → β) (A : Option Addr) (c : Nat) (l0 l : List α) (k : Nat) (W wr : World) : Prop where
 fil : Fill base W.heap.size E size f R L A c l0 l k W wr
 kp : ∀ i, i < W.heap.size → ownA A ≠ some i → wr.heap[i]? = W.heap[i]?
 sz : W.heap.size ≤ wr.heap.size
section
variable {α β : Type} {base : Nat} {E : TypeId} {size : Nat} {f : α → List Value} {R : α → World → Prop} {L : α → β} {A : Option Addr} {c : Nat} {l0 l : List α} {k : Nat} {W wr w2 : World}
theorem FillK.start (h : W.ownsRow base E size (.slice A l.length c) l.length (l.flatMap f)) : FillK base E size f R L A c l l 0 W W :=
 ⟨Fill.start h (Below.refl _ _), fun _ _ _ => rfl, Nat.le_refl _⟩
theorem FillK.step (h : FillK base E size f R L A c l0 l k W wr) (hf : ∀ x, (f x).length = size) {x x' : α} (hx : l[k]? = some x) {b i : Nat} {v : Value} (hA : A = some ⟨b, 0, none⟩) (hi : i < size) (hv : f x' = (f x).set i v) (hL : L x' = L x)
  (hb : Below wr.heap.size wr w2) (hR : Dep (fun i => wr.heap.size ≤ i) w2 (R x')) (hW : base ≤ W.heap.size) :
  FillK base E size f R L A c l0 (l.set k x') (k + 1) W (w2.setCell ⟨b, k * size + i, none⟩ v) :=
 ⟨h.fil.step hf hx hA hi hv hL hb hR hW h.sz, fun j hj hn => (heap_setCell_other _ _ _ _ (fun e => hn (by rw [hA]; have e : j = b := e; rw [e]; rfl))).trans ((hb.block j (Nat.lt_of_lt_of_le hj h.sz)).trans (h.kp j hj hn)), by simpa using Nat.le_trans h.sz hb.size⟩
theorem FillK.rows (h : FillK base E size f R L A c l0 l k W wr) (hk : l0.length ≤ k) (hl : l0.length ≤ 9223372036854775807) : Dep (fun i => W.heap.size ≤ i ∨ ownA A = some i) wr (RowsAt size f R A l) ∧ l.map L = l0.map L ∧ l.length = l0.length :=
 let h2 := h.fil.fin hk hl
 ⟨h2.1, h2.2, h.fil.len⟩
end
theorem wpList_buildD {P : Program} {w : World} {ops : Array Oper} {rest : List Oper} {o : Oper} {a : Act} {Q : Exit → Act → World → Prop} (hgd : o.guard = none) (t : TypeId) (parts : Array (Nat × Operand)) (ho : o.op = .build t parts) (l : List (Nat × Value)) (hl : (parts.map fun (i, x) => (i, a.eval x)).toList = l) (cs : Array Value)
  (hz : P.built t l = some cs) (h : wpList P ops Q rest (a.put o.dst (.agg cs)) w) : wpList P ops Q (o :: rest) a w := by
 subst hl
 refine wpList_build hgd t parts ho (by rw [hz]; rfl) ?_
 rw [hz]
 exact h
def RetNew (w : World) (T : TabI) (v : Bool) (e : Ending) (w' : World) : Prop :=
 (v = false ∧ e = .returned (.tuple #[.pointer none, .int .i64 2]) ∧ Hid (Below w.heap.size w w')) ∨
 (v = true ∧ ∃ db cs' T', e = .returned (.tuple #[.pointer (some ⟨db, 0, none⟩), .int .i64 0]) ∧ Hid (TabC cs' T' ∧ T'.L = T.L) ∧ Hid (DrvB db cs' 0 none 0 [] 0 w') ∧ Hid (Dep (fun k => w.heap.size ≤ k ∧ k ≠ db) w' (TabW T')) ∧ Hid (Below w.heap.size w w') ∧ w.heap.size ≤ db)
theorem new_st (w : World) (cs : Array Value) (T : TabI) (hC : TabC cs T) (hT : TabW T w) (hs : SmallT T.L) (v : Bool) (hv : Hid (pB (TabOk T.L) = v)) :
  Calls Tryz.prog 39 #[.agg cs] w (RetNew w T v) := by
 obtain ⟨wa, hwa⟩ : ∃ z, w.alloc (.cells cs 49) = z := ⟨_, rfl⟩
 have HK1 : Hid (St w wa (fun W => TabBox w.heap.size cs W ∧ TabW T W)) := by rw [← hwa]; exact St.tbox (Lh (St.start fun W hW => hT.below hW)) cs
 have HBA : Hid (Below w.heap.size w wa) := Lh HK1.out.2
 have hsa : wa.heap.size = w.heap.size + 1 := by rw [← hwa]; simp
 have HSA := Lh hsa
 have HC := Lh hC
 have HI : Hid ((Tryz.prog.info? 49).map (·.size) = some cs.size) := Lh (by rw [hC.size]; exact info_tabS)
 have HSP := Lh (small_parts hs)
 have HTO : Hid (∀ V, Below w.heap.size w V → TabW T V) := Lh fun V hV => hT.below hV
 clear hC hT hs hsa
 go_enter Tryz.func39, Tryz.ntmps39
 rcases v with _ | _
 ·go_wp2_with (first
   | (refine wpList_load_row rfl 49 _ rfl w.heap.size rfl _ cs _ _ HK1.out.now.1 Tryz.underlying49 rfl HI.out ?_)
   | (go_at_call 33; refine (tCheck_st (St.here HK1) cs T HC.out (fun _ h => h.2) false hv).mono ?_; rintro e w2 ⟨rfl, HK2⟩))
  go_ret2
  exact .inl ⟨rfl, rfl, Lh (HBA.out.trans (HK2.out.2.mono HBA.out.size))⟩
 go_wp2_with (first
  | (refine wpList_load_row rfl 49 _ rfl w.heap.size rfl _ cs _ _ HK1.out.now.1 Tryz.underlying49 rfl HI.out ?_)
  | (go_at_call 33; refine (tCheck_st (St.here HK1) cs T HC.out (fun _ h => h.2) true hv).mono ?_; rintro e w2 ⟨rfl, HK2⟩))
 have HOK : Hid (TabOk T.L) := Lh (pB_iff.1 hv.out)
 have hl1 : T.ns.length ≤ 4096 := by have := HOK.out.head.1; rwa [nodesL_len] at this
 have hl2 : T.acts.length ≤ 4096 := by have := HOK.out.head.2.1; rwa [actsL_len] at this
 have hl3 : T.es.length ≤ 4096 := by have := HOK.out.head.2.2.1; rwa [endsL_len] at this
 have HNX : Hid (∀ n ∈ T.ns, n.nx.length ≤ 1048576) := Lh fun n hn => by
  have h1 := (HOK.out.nodes n.L (List.mem_map.2 ⟨n, hn, rfl⟩)).1.2.2.1
  obtain ⟨n0, h0, _, _, h3⟩ := HOK.out.head.2.2.2
  rw [widthL_at h0] at h1
  have h2 : n.nx.length = n0.next.length := h1
  omega
 have HAO : Hid (∀ a ∈ T.acts, a.o.l.length ≤ 1048576) := Lh fun a ha => by
  have h1 := (HOK.out.acts a.L (List.mem_map.2 ⟨a, ha, rfl⟩)).2.2.2.2
  rw [show a.L.out.length = a.o.l.length from outL_len a.o] at h1; omega
 have HEO : Hid (∀ o ∈ T.es, o.l.length ≤ 1048576) := Lh fun o ho => by
  have h1 := HOK.out.ends o.L (List.mem_map.2 ⟨o, ho, rfl⟩)
  rw [outL_len] at h1; omega
 -- what holds of the table, whatever comes new
 have HTW : Hid (∀ V, Below wa.heap.size wa V → V.heap[w.heap.size]? = some (.cells cs 49 (0, 0)) ∧ TabW T V) := Lh fun V hV => HK1.out.1 V hV
 have HB2 : Hid (Below wa.heap.size wa w2) := Lh HK2.out.2
 have HCE : Hid (∀ V : World, V.heap[w.heap.size]? = some (.cells cs 49 (0, 0)) → V.cell? ⟨w.heap.size, 256, none⟩ = some (.slice T.na T.ns.length T.nc) ∧ V.cell? ⟨w.heap.size, 257, none⟩ = some (.slice T.aa T.acts.length T.ac) ∧ V.cell? ⟨w.heap.size, 258, none⟩ = some (.slice T.ea T.es.length T.ec)) := Lh fun V hV => by
  refine ⟨?_, ?_, ?_⟩
  ·simp only [World.cell?, hV]; exact HC.out.c1
  ·simp only [World.cell?, hV]; exact HC.out.c2
  ·simp only [World.cell?, hV]; exact HC.out.c3
 clear HK2 HK1
 obtain ⟨w3, hw3⟩ : ∃ z, w2.drew = z := ⟨_, rfl⟩
 have hb3 : Below w2.heap.size w2 w3 := by rw [← hw3]; exact (Below.refl _ _).drew
 have HB3 : Hid (Below wa.heap.size wa w3) := Lh (HB2.out.trans (hb3.mono HB2.out.size))
 have h3 := HCE.out w3 (HTW.out w3 HB3.out).1
 clear hb3
 refine wp_region_Y 10 (by kernel_rfl) (fun V => V.cell? ⟨w.heap.size, 256, none⟩ = some (.slice T.na T.ns.length T.nc) ∧ V.cell? ⟨w.heap.size, 257, none⟩ = some (.slice T.aa T.acts.length T.ac) ∧ V.cell? ⟨w.heap.size, 258, none⟩ = some (.slice T.ea T.es.length T.ec)) (fun _ => True) (by rw [hw3]; exact h3) (fun hHeld => ?_)
 refine yk (v := ?_) 0 [10, 11, 12, 13, 14] rfl ?_ (fun _ _ => trivial) ?_
 rotate_left
 ·intro w hSw; (try dsimp only at hSw); go_simp; (try with_reducible rfl)
 (try simp only [Act.put, zq1, zq2, zq3, zq4, zq5, zq6])
 refine yk (v := ?_) 1 [10, 11, 12, 13, 14] rfl ?_ (fun _ _ => trivial) ?_
 rotate_left
 ·intro w hSw; (try dsimp only at hSw); go_simp; (try with_reducible rfl)
 (try simp only [Act.put, zq1, zq2, zq3, zq4, zq5, zq6])
 refine yk (v := ?_) 3 [10, 11, 12, 13, 14] rfl ?_ (fun _ _ => trivial) ?_
 rotate_left
 ·intro w hSw; (try dsimp only at hSw); go_simp; (try with_reducible rfl)
 (try simp only [Act.put, zq1, zq2, zq3, zq4, zq5, zq6])
 refine yk (v := ?_) 4 [10, 11, 12, 13, 14] rfl ?_ (fun _ _ => trivial) ?_
 rotate_left
 ·intro w hSw; (try dsimp only at hSw); go_simp; (try with_reducible rfl)
 (try simp only [Act.put, zq1, zq2, zq3, zq4, zq5, zq6])
 refine yk (v := ?_) 6 [10, 11, 12, 13, 14] rfl ?_ (fun _ _ => trivial) ?_
 rotate_left
 ·intro w hSw; (try dsimp only at hSw); go_simp; (try with_reducible rfl)
 (try simp only [Act.put, zq1, zq2, zq3, zq4, zq5, zq6])
 refine yk (v := ?_) 7 [10, 11, 12, 13, 14] rfl ?_ (fun _ _ => trivial) ?_
 rotate_left
 ·intro w hSw; (try dsimp only at hSw); go_simp; (try with_reducible rfl)
 (try simp only [Act.put, zq1, zq2, zq3, zq4, zq5, zq6])
 rw [hw3]
 refine wpAnyY_ready (i := 2) (by kernel_rfl) rfl (fun _ _ => trivial) (fun K hK => ?_)
 go_simp
 refine (CloneNode w3 (HTW.out w3 HB3.out).2.nodes.sl (flat_one (fun x u hu => nodeC_one x u hu) T.ns) (by omega) T.nc).mono ?_
 rintro e w4 ⟨A1, n1, rfl, HO1, HBX4⟩
 have HB4 : Hid (Below wa.heap.size wa w4) := Lh (HB3.out.trans (HBX4.out.mono HB3.out.size))
 have h4 := HCE.out w4 (HTW.out w4 HB4.out).1
 refine hK.out _ _ (h4) (fun hHeld => ?_)
 clear hK K
 (try simp only [Act.put, zq1, zq2, zq3, zq4, zq5, zq6])
 refine yk (v := ?_) 9 [10, 11, 12, 13, 14] rfl ?_ (fun _ _ => trivial) ?_
 rotate_left
 ·intro w hSw; (try dsimp only at hSw); go_simp; (try with_reducible rfl)
 (try simp only [Act.put, zq1, zq2, zq3, zq4, zq5, zq6])
 refine wpAnyY_ready (i := 5) (by kernel_rfl) rfl (fun _ _ => trivial) (fun K hK => ?_)
 go_simp
 refine (CloneAct w4 (HTW.out w4 HB4.out).2.acts.sl (flat_one (fun x u hu => actC_one x u hu) T.acts) (by omega) T.ac).mono ?_
 rintro e w5 ⟨A2, n2, rfl, HO2, HBX5⟩
 have HB5 : Hid (Below wa.heap.size wa w5) := Lh (HB4.out.trans (HBX5.out.mono HB4.out.size))
 have h5 := HCE.out w5 (HTW.out w5 HB5.out).1
 refine hK.out _ _ (h5) (fun hHeld => ?_)
 clear hK K
 (try simp only [Act.put, zq1, zq2, zq3, zq4, zq5, zq6])
 refine wpAnyY_ready (i := 8) (by kernel_rfl) rfl (fun _ _ => trivial) (fun K hK => ?_)
 go_simp
 refine (CloneOut w5 (HTW.out w5 HB5.out).2.ends.sl (flat_one (fun x u hu => outV_one x u hu) T.es) (by omega) T.ec).mono ?_
 rintro e w6 ⟨A3, n3, rfl, HO3, HBX6⟩
 have HB6 : Hid (Below wa.heap.size wa w6) := Lh (HB5.out.trans (HBX6.out.mono HB5.out.size))
 have hx6 := (HTW.out w6 HB6.out).1
 have h6 := HCE.out w6 hx6
 have hf6 : w6.frozen? ⟨w.heap.size, 256, none⟩ = false := by simp [World.frozen?, hx6]
 refine hK.out _ _ (h6) (fun hHeld => ?_)
 clear hK K
 (try simp only [Act.put, zq1, zq2, zq3, zq4, zq5, zq6])
 obtain ⟨w7, hw7⟩ : ∃ z, w6.setCell ⟨w.heap.size, 256, none⟩ (.slice A1 T.ns.length n1) = z := ⟨_, rfl⟩
 have hx7 : w7.heap[w.heap.size]? = some (.cells (cs.setIfInBounds 256 (.slice A1 T.ns.length n1)) 49 (0, 0)) := by rw [← hw7]; exact heap_setCell_same w6 w.heap.size 256 _ _ _ hx6
 have hc7 : w7.cell? ⟨w.heap.size, 257, none⟩ = some (.slice T.aa T.acts.length T.ac) := by simp only [World.cell?, hx7]; rw [Array.getElem?_setIfInBounds_ne (by omega)]; exact HC.out.c2
 have hf7 : w7.frozen? ⟨w.heap.size, 257, none⟩ = false := by simp [World.frozen?, hx7]
 obtain ⟨w8, hw8⟩ : ∃ z, w7.setCell ⟨w.heap.size, 257, none⟩ (.slice A2 T.acts.length n2) = z := ⟨_, rfl⟩
 have hx8 : w8.heap[w.heap.size]? = some (.cells ((cs.setIfInBounds 256 (.slice A1 T.ns.length n1)).setIfInBounds 257 (.slice A2 T.acts.length n2)) 49 (0, 0)) := by rw [← hw8]; exact heap_setCell_same w7 w.heap.size 257 _ _ _ hx7
 have hc8 : w8.cell? ⟨w.heap.size, 258, none⟩ = some (.slice T.ea T.es.length T.ec) := by simp only [World.cell?, hx8]; rw [Array.getElem?_setIfInBounds_ne (by omega), Array.getElem?_setIfInBounds_ne (by omega)]; exact HC.out.c3
 have hf8 : w8.frozen? ⟨w.heap.size, 258, none⟩ = false := by simp [World.frozen?, hx8]
 obtain ⟨w9, hw9⟩ : ∃ z, w8.setCell ⟨w.heap.size, 258, none⟩ (.slice A3 T.es.length n3) = z := ⟨_, rfl⟩
 have hx9 : w9.heap[w.heap.size]? = some (.cells (putT cs (.slice A1 T.ns.length n1) (.slice A2 T.acts.length n2) (.slice A3 T.es.length n3)) 49 (0, 0)) := by rw [← hw9]; exact heap_setCell_same w8 w.heap.size 258 _ _ _ hx8
 refine wpAnyY_late (i := 10) (by kernel_rfl) (by kernel_rfl) rfl (fun K hK => ?_)
 go_simp
 (try rw [hw7])
 refine hK.out _ _ (trivial) ?_
 clear hK K
 (try simp only [Act.put, zq1, zq2, zq3, zq4, zq5, zq6])
 refine wpAnyY_late (i := 11) (by kernel_rfl) (by kernel_rfl) rfl (fun K hK => ?_)
 go_simp
 refine hK.out _ _ (trivial) ?_
 clear hK K
 (try simp only [Act.put, zq1, zq2, zq3, zq4, zq5, zq6])
 refine wpAnyY_late (i := 12) (by kernel_rfl) (by kernel_rfl) rfl (fun K hK => ?_)
 go_simp
 (try rw [hw8])
 refine hK.out _ _ (trivial) ?_
 clear hK K
 (try simp only [Act.put, zq1, zq2, zq3, zq4, zq5, zq6])
 refine wpAnyY_late (i := 13) (by kernel_rfl) (by kernel_rfl) rfl (fun K hK => ?_)
 go_simp
 refine hK.out _ _ (trivial) ?_
 clear hK K
 (try simp only [Act.put, zq1, zq2, zq3, zq4, zq5, zq6])
 refine wpAnyY_last (i := 14) (by kernel_rfl) (by kernel_rfl) (by kernel_rfl) rfl (fun K hK => ?_)
 go_simp
 (try rw [hw9])
 refine hK.out _ _ trivial ?_
 have hs3 := HB3.out.size
 have hsa := HSA.out
 have hz9 : w9.heap.size = w6.heap.size := by rw [← hw9, ← hw8, ← hw7]; simp
 have hst : ∀ k, k ≠ w.heap.size → w9.heap[k]? = w6.heap[k]? := fun k hk => by
  rw [← hw9, heap_setCell_other _ _ _ _ hk, ← hw8, heap_setCell_other _ _ _ _ hk, ← hw7, heap_setCell_other _ _ _ _ hk]
 have HR1 : Hid (w9.ownsRow wa.heap.size 64 3 (.slice A1 T.ns.length n1) T.ns.length (T.ns.flatMap nodeC)) := Lh (own_mono (own_keep HO1.out fun k hk => by
  have h8 := own_ty HO1.out hk
  have h9 := HBX5.out.size
  exact (hst k (by omega)).trans ((HBX6.out.block k (by omega)).trans (HBX5.out.block k h8.2.1))) hs3)
 have HR2 : Hid (w9.ownsRow wa.heap.size 59 3 (.slice A2 T.acts.length n2) T.acts.length (T.acts.flatMap actC)) := Lh (own_mono (own_keep HO2.out fun k hk => by
  have h8 := own_ty HO2.out hk
  have h9 := HBX4.out.size
  exact (hst k (by omega)).trans (HBX6.out.block k h8.2.1)) HB4.out.size)
 have HR3 : Hid (w9.ownsRow wa.heap.size 57 1 (.slice A3 T.es.length n3) T.es.length (T.es.flatMap fun o => [OutI.v o])) := Lh (own_mono (own_keep HO3.out fun k hk => by
  have h8 := own_ty HO3.out hk
  have h9 := HB5.out.size
  exact hst k (by omega)) HB5.out.size)
 have HB9 : Hid (Below w.heap.size w w9) := Lh (by
  have h8 := HBA.out.trans (HB6.out.mono HBA.out.size)
  rw [← hw9, ← hw8, ← hw7]
  exact ((h8.setCell (p := ⟨w.heap.size, 256, none⟩) (Nat.le_refl _) _).setCell (p := ⟨w.heap.size, 257, none⟩) (Nat.le_refl _) _).setCell (p := ⟨w.heap.size, 258, none⟩) (Nat.le_refl _) _)
 have HX9 := Lh hx9
 have HZ9 : Hid (wa.heap.size ≤ w9.heap.size) := Lh (by have := HB6.out.size; omega)
 clear hw7 hw8 hw9 hx6 hx7 hx8 hx9 hc7 hc8 hf6 hf7 hf8 h3 h4 h5 h6 hst hz9 hs3 hsa hHeld hK K hw3 HO1 HO2 HO3 HBX4 HBX5 HBX6 HB3 HB4 HB5 HB6
 obtain ⟨cs1, hcs1⟩ : ∃ z, putT cs (.slice A1 T.ns.length n1) (.slice A2 T.acts.length n2) (.slice A3 T.es.length n3) = z := ⟨_, rfl⟩
 rw [hcs1] at HX9
 have HCS1 := Lh hcs1
 have HT1 : Hid (∀ V : World, V.heap[w.heap.size]? = some (.cells cs1 49 (0, 0)) → V.cell? ⟨w.heap.size, 256, none⟩ = some (.slice A1 T.ns.length n1) ∧ V.cell? ⟨w.heap.size, 257, none⟩ = some (.slice A2 T.acts.length n2) ∧ V.cell? ⟨w.heap.size, 258, none⟩ = some (.slice A3 T.es.length n3)) := Lh fun V hV => by
  have h8 := putT_C HC.out A1 n1 T.ns A2 n2 T.acts A3 n3 T.es
  rw [hcs1] at h8
  refine ⟨?_, ?_, ?_⟩
  ·simp only [World.cell?, hV]; exact h8.c1
  ·simp only [World.cell?, hV]; exact h8.c2
  ·simp only [World.cell?, hV]; exact h8.c3
 clear hcs1
 have h9 := (HT1.out w9 HX9.out).1
 (try simp only [Act.put, zq1, zq2, zq3, zq4, zq5, zq6])
 go_wp2_with fail
 clear h9
 -- nodes
 go_loopw [25] (fun iv wr => ∃ (k : Nat) (l : List NodeI), k ≤ T.ns.length ∧ iv = .int .i64 k ∧ Hid (FillK wa.heap.size 64 3 nodeC NodeW NodeI.L A1 n1 T.ns l k w9 wr)) (fun iv _ => T.ns.length - (intOf iv).toNat)
 case atStart => exact ⟨0, T.ns, Nat.zero_le _, rfl, Lh (FillK.start HR1.out)⟩
 case round =>
 obtain ⟨k, l, hk, rfl, HF⟩ := hrel
 have hxr : wr.heap[w.heap.size]? = some (.cells cs1 49 (0, 0)) := (HF.out.kp _ (by have := HZ9.out; have := HSA.out; omega) (fun e => by have := (own_ty HR1.out e).1; have := HSA.out; omega)).trans HX9.out
 have HBR : Hid (Below w.heap.size w wr) := Lh (HB9.out.trans (HF.out.fil.bel.mono (by have := HSA.out; omega)))
 by_cases hlt : k < T.ns.length
 ·obtain ⟨x, hx⟩ : ∃ x, T.ns[k]? = some x := ⟨_, List.getElem?_eq_getElem hlt⟩
  obtain ⟨b, rfl, hx', hcell, hfz⟩ := HF.out.fil.at_ (fun _ => rfl) hx
  have HXW : Hid (NodeW x wr) := Lh ((HTO.out wr HBR.out).nodes.it x (List.mem_of_getElem? hx))
  have hpl := HNX.out x (List.mem_of_getElem? hx)
  have HX := Lh hx'
  have hli : (k : Int) < (T.ns.length : Int) := by omega
  have hk0 : (0 : Int) ≤ (k : Int) := by omega
  have HSX : Hid (∀ V : World, V.heap[w.heap.size]? = wr.heap[w.heap.size]? → V.heap[b]? = wr.heap[b]? → V.cell? ⟨w.heap.size, 256, none⟩ = some (.slice (some ⟨b, 0, none⟩) T.ns.length n1) ∧ V.cell? ⟨b, k * 3 + 1, none⟩ = some (.slice x.na x.nx.length x.nc)) := Lh fun V h1 h2 => ⟨(HT1.out V (h1.trans hxr)).1, (World.cell?_of_block (w := wr) (a := ⟨b, k * 3 + 1, none⟩) h2).trans (hcell 1 _ rfl)⟩
  have hbl : b < wr.heap.size := lt_of_cell (hcell 1 _ rfl)
  have hwl : w.heap.size < wr.heap.size := (Array.getElem?_eq_some_iff.1 hxr).1
  clear hx hx' hcell hfz hxr
  go_wp2_with fail
  obtain ⟨w2', hw2'⟩ : ∃ z, wr.drew = z := ⟨_, rfl⟩
  have hb2 : Below wr.heap.size wr w2' := by rw [← hw2']; exact (Below.refl _ _).drew
  have HB2' := Lh hb2
  have h2 := HSX.out w2' (hb2.block _ hwl) (hb2.block _ hbl)
  have hsz2 : w2'.heap.size = wr.heap.size := by rw [← hw2']; rfl
  have HSZ2 := Lh hsz2
  clear hb2 hsz2
  refine wp_region_Z 12 (by kernel_rfl) (fun V => V.cell? ⟨w.heap.size, 256, none⟩ = some (.slice (some ⟨b, 0, none⟩) T.ns.length n1) ∧ V.cell? ⟨b, k * 3 + 1, none⟩ = some (.slice x.na x.nx.length x.nc)) (by rw [hw2']; exact h2) (fun hHeld => ?_)
  refine zt (v := ?_) 0 rfl ?_ ?_
  rotate_left
  ·intro w hSw; (try dsimp only at hSw); go_simp; (try with_reducible rfl)
  (try simp only [Act.put, zq1, zq2, zq3, zq4, zq5, zq6])
  refine zt (v := ?_) 1 rfl ?_ ?_
  rotate_left
  ·intro w hSw; (try dsimp only at hSw); go_simp; (try with_reducible rfl)
  (try simp only [Act.put, zq1, zq2, zq3, zq4, zq5, zq6])
  refine zt (v := ?_) 2 rfl ?_ ?_
  rotate_left
  ·intro w hSw; (try dsimp only at hSw); go_simp; (try with_reducible rfl)
  (try simp only [Act.put, zq1, zq2, zq3, zq4, zq5, zq6])
  refine zt (v := ?_) 3 rfl ?_ ?_
  rotate_left
  ·intro w hSw; (try dsimp only at hSw); go_simp; (try with_reducible rfl)
  (try simp only [Act.put, zq1, zq2, zq3, zq4, zq5, zq6])
  refine zt (v := ?_) 4 rfl ?_ ?_
  rotate_left
  ·intro w hSw; (try dsimp only at hSw); go_simp; (try with_reducible rfl)
  (try simp only [Act.put, zq1, zq2, zq3, zq4, zq5, zq6])
  refine zt (v := ?_) 5 rfl ?_ ?_
  rotate_left
  ·intro w hSw; (try dsimp only at hSw); go_simp; (try with_reducible rfl)
  (try simp only [Act.put, zq1, zq2, zq3, zq4, zq5, zq6])
  refine zt (v := ?_) 6 rfl ?_ ?_
  rotate_left
  ·intro w hSw; (try dsimp only at hSw); go_simp; (try with_reducible rfl)
  (try simp only [Act.put, zq1, zq2, zq3, zq4, zq5, zq6])
  refine zt (v := ?_) 7 rfl ?_ ?_
  rotate_left
  ·intro w hSw; (try dsimp only at hSw); go_simp; (try with_reducible rfl)
  (try simp only [Act.put, zq1, zq2, zq3, zq4, zq5, zq6])
  refine zt (v := ?_) 8 rfl ?_ ?_
  rotate_left
  ·intro w hSw; (try dsimp only at hSw); go_simp; (try with_reducible rfl)
  (try simp only [Act.put, zq1, zq2, zq3, zq4, zq5, zq6])
  rw [hw2']
  refine zr 9 rfl fun K hK => ?_
  go_simp
  refine (CloneInt w2' (by have h8 := (HXW.out.2.below (hb := HB2'.out)).sl; rw [← List.map_eq_flatMap] at h8; exact h8) (fun u hu => by obtain ⟨y, _, rfl⟩ := List.mem_map.1 hu; rfl) hpl x.nc).mono ?_
  rintro e w5 ⟨A5, c5, rfl, HO5, HBX5⟩
  have hb5 : Below wr.heap.size wr w5 := HB2'.out.trans (HBX5.out.mono (by rw [HSZ2.out]; exact Nat.le_refl _))
  have h5 := HSX.out w5 (hb5.block _ hwl) (hb5.block _ hbl)
  have hf5 : w5.frozen? ⟨b, k * 3 + 1, none⟩ = false := (own_keep HF.out.fil.own fun j hj => hb5.block j (own_ty HF.out.fil.own hj).2.1).frozenAt _
  have HF2 : Hid (FillK wa.heap.size 64 3 nodeC NodeW NodeI.L (some ⟨b, 0, none⟩) n1 T.ns (l.set k { x with na := A5, nc := c5 }) (k + 1) w9 (w5.setCell ⟨b, k * 3 + 1, none⟩ (.slice A5 x.nx.length c5))) := Lh
   (HF.out.step (fun _ => rfl) HX.out rfl (by decide) rfl rfl hb5 (fun V hV => ⟨HXW.out.1, by
    have h8 := HO5.out
    rw [List.map_eq_flatMap] at h8
    exact (rows_own h8 (by omega) (fun y hy U => HXW.out.2.it y hy)) V (fun q hq hl => hV q (by rw [← HSZ2.out]; exact hq) hl)⟩) HZ9.out)
  clear hb5
  refine hK.out _ _ (h5) (fun hHeld => ?_)
  clear hK K
  (try simp only [Act.put, zq1, zq2, zq3, zq4, zq5, zq6])
  refine zr 10 rfl fun K hK => ?_
  go_simp
  refine hK.out _ _ (h5) (fun hHeld => ?_)
  clear hK K
  (try simp only [Act.put, zq1, zq2, zq3, zq4, zq5, zq6])
  refine zt (v := ?_) 11 rfl ?_ ?_
  rotate_left
  ·intro w hSw; (try dsimp only at hSw); go_simp; (try with_reducible rfl)
  (try simp only [Act.put, zq1, zq2, zq3, zq4, zq5, zq6])
  refine wpAnyZ_last (i := 12) rfl (by kernel_rfl) (by kernel_rfl) rfl (fun K hK => ?_)
  go_simp
  refine hK.out _ _ ?_
  clear hHeld hK K h5 hf5 h2 hw2'
  (try simp only [Act.put, zq1, zq2, zq3, zq4, zq5, zq6])
  go_wp2_with fail
  go_roundw
  case rel => exact ⟨k + 1, _, by omega, by go_num, HF2⟩
  case measure => simp [intOf]; omega
 obtain rfl : k = T.ns.length := by omega
 have hd : decide (T.ns.length < T.ns.length) = false := by simp
 have HN := Lh (HF.out.rows (Nat.le_refl _) (by omega))
 obtain ⟨u1, hu1⟩ : ∃ z, z = wr := ⟨_, rfl⟩
 subst hu1
 obtain ⟨l1, hl1'⟩ : ∃ z, z = l := ⟨_, rfl⟩
 subst hl1'
 have HF1 := HF
 have HBU1 := HBR
 have HXU1 := Lh hxr
 have HRU2 : Hid (u1.ownsRow wa.heap.size 59 3 (.slice A2 T.acts.length n2) T.acts.length (T.acts.flatMap actC)) := Lh (own_keep HR2.out fun j hj => HF.out.kp j (own_ty HR2.out hj).2.1 (fun e => own_apart HR1.out HR2.out tyNA j e hj))
 have HRU3 : Hid (u1.ownsRow wa.heap.size 57 1 (.slice A3 T.es.length n3) T.es.length (T.es.flatMap fun o => [OutI.v o])) := Lh (own_keep HR3.out fun j hj => HF.out.kp j (own_ty HR3.out hj).2.1 (fun e => own_apart HR1.out HR3.out tyNT j e hj))
 have HZU1 : Hid (w9.heap.size ≤ u1.heap.size) := Lh HF.out.sz
 have h9 := (HT1.out u1 hxr).2.1
 clear HF HBR hxr hlt
 go_wp2_with fail
 clear h9 hd
 -- acts
 go_loopw [44] (fun iv wr => ∃ (k : Nat) (l : List ActI), k ≤ T.acts.length ∧ iv = .int .i64 k ∧ Hid (FillK wa.heap.size 59 3 actC ActW ActI.L A2 n2 T.acts l k u1 wr)) (fun iv _ => T.acts.length - (intOf iv).toNat)
 case atStart => exact ⟨0, T.acts, Nat.zero_le _, rfl, Lh (FillK.start HRU2.out)⟩
 case round =>
 obtain ⟨k, l, hk, rfl, HF⟩ := hrel
 have hxr : wr.heap[w.heap.size]? = some (.cells cs1 49 (0, 0)) := (HF.out.kp _ (by have := HZ9.out; have := HZU1.out; have := HSA.out; omega) (fun e => by have := (own_ty HRU2.out e).1; have := HSA.out; omega)).trans HXU1.out
 have HBR : Hid (Below w.heap.size w wr) := Lh (HBU1.out.trans (HF.out.fil.bel.mono (by have := HSA.out; omega)))
 by_cases hlt : k < T.acts.length
 ·obtain ⟨x, hx⟩ : ∃ x, T.acts[k]? = some x := ⟨_, List.getElem?_eq_getElem hlt⟩
  obtain ⟨b, rfl, hx', hcell, hfz⟩ := HF.out.fil.at_ (fun _ => rfl) hx
  have hxm := List.mem_of_getElem? hx
  have HXW : Hid (∀ V, Below w.heap.size w V → ActW x V) := Lh fun V hV => (HTO.out V hV).acts.it x hxm
  have hpl := HAO.out x hxm
  have hpp := HSP.out.1 x hxm
  have HPP := Lh hpp
  have HX := Lh hx'
  have hli : (k : Int) < (T.acts.length : Int) := by omega
  have hk0 : (0 : Int) ≤ (k : Int) := by omega
  have HSX : Hid (∀ V : World, V.heap[w.heap.size]? = wr.heap[w.heap.size]? → V.heap[b]? = wr.heap[b]? → V.cell? ⟨w.heap.size, 257, none⟩ = some (.slice (some ⟨b, 0, none⟩) T.acts.length n2) ∧ V.cell? ⟨b, k * 3 + 2, none⟩ = some (.slice x.o.a x.o.l.length x.o.c)) := Lh fun V h1 h2 => ⟨(HT1.out V (h1.trans hxr)).2.1, (World.cell?_of_block (w := wr) (a := ⟨b, k * 3 + 2, none⟩) h2).trans (hcell 2 _ rfl)⟩
  have hbl : b < wr.heap.size := lt_of_cell (hcell 2 _ rfl)
  have hwl : w.heap.size < wr.heap.size := (Array.getElem?_eq_some_iff.1 hxr).1
  clear hx hx' hcell hfz hxr hpp hxm
  go_wp2_with fail
  obtain ⟨w2', hw2'⟩ : ∃ z, wr.drew = z := ⟨_, rfl⟩
  have hb2 : Below wr.heap.size wr w2' := by rw [← hw2']; exact (Below.refl _ _).drew
  have HB2' := Lh hb2
  have h2 := HSX.out w2' (hb2.block _ hwl) (hb2.block _ hbl)
  have hsz2 : w2'.heap.size = wr.heap.size := by rw [← hw2']; rfl
  have HSZ2 := Lh hsz2
  have hbw2 : Below w.heap.size w w2' := HBR.out.trans (hb2.mono HBR.out.size)
  have HBW2 := Lh hbw2
  clear hb2 hsz2 hbw2
  refine wp_region_Z 12 (by kernel_rfl) (fun V => V.cell? ⟨w.heap.size, 257, none⟩ = some (.slice (some ⟨b, 0, none⟩) T.acts.length n2) ∧ V.cell? ⟨b, k * 3 + 2, none⟩ = some (.slice x.o.a x.o.l.length x.o.c)) (by rw [hw2']; exact h2) (fun hHeld => ?_)
  refine zt (v := ?_) 0 rfl ?_ ?_
  rotate_left
  ·intro w hSw; (try dsimp only at hSw); go_simp; (try with_reducible rfl)
  (try simp only [Act.put, zq1, zq2, zq3, zq4, zq5, zq6])
  refine zt (v := ?_) 1 rfl ?_ ?_
  rotate_left
  ·intro w hSw; (try dsimp only at hSw); go_simp; (try with_reducible rfl)
  (try simp only [Act.put, zq1, zq2, zq3, zq4, zq5, zq6])
  refine zt (v := ?_) 2 rfl ?_ ?_
  rotate_left
  ·intro w hSw; (try dsimp only at hSw); go_simp; (try with_reducible rfl)
  (try simp only [Act.put, zq1, zq2, zq3, zq4, zq5, zq6])
  refine zt (v := ?_) 3 rfl ?_ ?_
  rotate_left
  ·intro w hSw; (try dsimp only at hSw); go_simp; (try with_reducible rfl)
  (try simp only [Act.put, zq1, zq2, zq3, zq4, zq5, zq6])
  refine zt (v := ?_) 4 rfl ?_ ?_
  rotate_left
  ·intro w hSw; (try dsimp only at hSw); go_simp; (try with_reducible rfl)
  (try simp only [Act.put, zq1, zq2, zq3, zq4, zq5, zq6])
  refine zt (v := ?_) 5 rfl ?_ ?_
  rotate_left
  ·intro w hSw; (try dsimp only at hSw); go_simp; (try with_reducible rfl)
  (try simp only [Act.put, zq1, zq2, zq3, zq4, zq5, zq6])
  refine zt (v := ?_) 6 rfl ?_ ?_
  rotate_left
  ·intro w hSw; (try dsimp only at hSw); go_simp; (try with_reducible rfl)
  (try simp only [Act.put, zq1, zq2, zq3, zq4, zq5, zq6])
  refine zt (v := ?_) 7 rfl ?_ ?_
  rotate_left
  ·intro w hSw; (try dsimp only at hSw); go_simp; (try with_reducible rfl)
  (try simp only [Act.put, zq1, zq2, zq3, zq4, zq5, zq6])
  refine zt (v := ?_) 8 rfl ?_ ?_
  rotate_left
  ·intro w hSw; (try dsimp only at hSw); go_simp; (try with_reducible rfl)
  (try simp only [Act.put, zq1, zq2, zq3, zq4, zq5, zq6])
  rw [hw2']
  refine zr 9 rfl fun K hK => ?_
  go_simp
  refine (dOwn_st w2' (HXW.out w2' HBW2.out).2 hpl HPP.out x.o.c).mono ?_
  rintro e w5 ⟨A5, c5, l5, rfl, HL5, HD5, HBX5⟩
  have hl5 : l5.length = x.o.l.length := by have := congrArg List.length HL5.out; simpa using this
  have HLL := Lh hl5
  rw [hl5]
  have hb5 : Below wr.heap.size wr w5 := HB2'.out.trans (HBX5.out.mono (by rw [HSZ2.out]; exact Nat.le_refl _))
  have h5 := HSX.out w5 (hb5.block _ hwl) (hb5.block _ hbl)
  have hf5 : w5.frozen? ⟨b, k * 3 + 2, none⟩ = false := (own_keep HF.out.fil.own fun j hj => hb5.block j (own_ty HF.out.fil.own hj).2.1).frozenAt _
  have HF2 : Hid (FillK wa.heap.size 59 3 actC ActW ActI.L (some ⟨b, 0, none⟩) n2 T.acts (l.set k { x with o := ⟨A5, c5, l5⟩ }) (k + 1) u1 (w5.setCell ⟨b, k * 3 + 2, none⟩ (.slice A5 x.o.l.length c5))) := Lh
   (HF.out.step (fun _ => rfl) HX.out rfl (by decide) (by show [Value.int .i64 x.e, .int .i64 x.d, .slice A5 l5.length c5] = _; rw [HLL.out]; rfl) (by show (⟨x.e, x.d, l5.map TermI.L⟩ : ActL) = ⟨x.e, x.d, x.o.l.map TermI.L⟩; rw [HL5.out]) hb5 (fun V hV => ⟨(HXW.out wr HBR.out).1, HD5.out V (fun q hq hl => hV q (by rw [← HSZ2.out]; exact hq) hl)⟩) (by have := HZ9.out; have := HZU1.out; omega))
  clear hb5 hl5
  refine hK.out _ _ (h5) (fun hHeld => ?_)
  clear hK K
  (try simp only [Act.put, zq1, zq2, zq3, zq4, zq5, zq6])
  refine zr 10 rfl fun K hK => ?_
  go_simp
  refine hK.out _ _ (h5) (fun hHeld => ?_)
  clear hK K
  (try simp only [Act.put, zq1, zq2, zq3, zq4, zq5, zq6])
  refine zt (v := ?_) 11 rfl ?_ ?_
  rotate_left
  ·intro w hSw; (try dsimp only at hSw); go_simp; (try with_reducible rfl)
  (try simp only [Act.put, zq1, zq2, zq3, zq4, zq5, zq6])
  refine wpAnyZ_last (i := 12) rfl (by kernel_rfl) (by kernel_rfl) rfl (fun K hK => ?_)
  go_simp
  refine hK.out _ _ ?_
  clear hHeld hK K h5 hf5 h2 hw2'
  (try simp only [Act.put, zq1, zq2, zq3, zq4, zq5, zq6])
  go_wp2_with fail
  go_roundw
  case rel => exact ⟨k + 1, _, by omega, by go_num, HF2⟩
  case measure => simp [intOf]; omega
 obtain rfl : k = T.acts.length := by omega
 have hd : decide (T.acts.length < T.acts.length) = false := by simp
 have HA := Lh (HF.out.rows (Nat.le_refl _) (by omega))
 obtain ⟨u2, hu2⟩ : ∃ z, z = wr := ⟨_, rfl⟩
 subst hu2
 obtain ⟨l2, hl2'⟩ : ∃ z, z = l := ⟨_, rfl⟩
 subst hl2'
 have HF2 := HF
 have HBU2 := HBR
 have HXU2 := Lh hxr
 have HV3 : Hid (u2.ownsRow wa.heap.size 57 1 (.slice A3 T.es.length n3) T.es.length (T.es.flatMap fun o => [OutI.v o])) := Lh (own_keep HRU3.out fun j hj => HF.out.kp j (own_ty HRU3.out hj).2.1 (fun e => own_apart HRU2.out HRU3.out tyAT' j e hj))
 have HZU2 : Hid (u1.heap.size ≤ u2.heap.size) := Lh HF.out.sz
 have h9 := (HT1.out u2 hxr).2.2
 clear HF HBR hxr hlt
 go_wp2_with fail
 clear h9 hd
 -- ends
 go_loopw [63] (fun iv wr => ∃ (k : Nat) (l : List OutI), k ≤ T.es.length ∧ iv = .int .i64 k ∧ Hid (FillK wa.heap.size 57 1 (fun o => [OutI.v o]) OutW OutI.L A3 n3 T.es l k u2 wr)) (fun iv _ => T.es.length - (intOf iv).toNat)
 case atStart => exact ⟨0, T.es, Nat.zero_le _, rfl, Lh (FillK.start HV3.out)⟩
 case round =>
 obtain ⟨k, l, hk, rfl, HF⟩ := hrel
 have hxr : wr.heap[w.heap.size]? = some (.cells cs1 49 (0, 0)) := (HF.out.kp _ (by have := HZ9.out; have := HZU1.out; have := HZU2.out; have := HSA.out; omega) (fun e => by have := (own_ty HV3.out e).1; have := HSA.out; omega)).trans HXU2.out
 have HBR : Hid (Below w.heap.size w wr) := Lh (HBU2.out.trans (HF.out.fil.bel.mono (by have := HSA.out; omega)))
 by_cases hlt : k < T.es.length
 ·obtain ⟨x, hx⟩ : ∃ x, T.es[k]? = some x := ⟨_, List.getElem?_eq_getElem hlt⟩
  obtain ⟨b, rfl, hx', hcell, hfz⟩ := HF.out.fil.at_ (fun _ => rfl) hx
  have hxm := List.mem_of_getElem? hx
  have HXW : Hid (∀ V, Below w.heap.size w V → OutW x V) := Lh fun V hV => (HTO.out V hV).ends.it x hxm
  have hpl := HEO.out x hxm
  have HPP := Lh (HSP.out.2 x hxm)
  have HX := Lh hx'
  have hli : (k : Int) < (T.es.length : Int) := by omega
  have hk0 : (0 : Int) ≤ (k : Int) := by omega
  have hc0 : wr.cell? ⟨b, k, none⟩ = some (.slice x.a x.l.length x.c) := by have := hcell 0 _ rfl; rwa [Nat.mul_one, Nat.add_zero] at this
  have HSX : Hid (∀ V : World, V.heap[w.heap.size]? = wr.heap[w.heap.size]? → V.heap[b]? = wr.heap[b]? → V.cell? ⟨w.heap.size, 258, none⟩ = some (.slice (some ⟨b, 0, none⟩) T.es.length n3) ∧ V.cell? ⟨b, k, none⟩ = some (.slice x.a x.l.length x.c)) := Lh fun V h1 h2 => ⟨(HT1.out V (h1.trans hxr)).2.2, (World.cell?_of_block (w := wr) (a := ⟨b, k, none⟩) h2).trans hc0⟩
  have hbl : b < wr.heap.size := lt_of_cell hc0
  have hwl : w.heap.size < wr.heap.size := (Array.getElem?_eq_some_iff.1 hxr).1
  clear hx hx' hcell hfz hxr hxm hc0
  go_wp2_with fail
  obtain ⟨w2', hw2'⟩ : ∃ z, wr.drew = z := ⟨_, rfl⟩
  have hb2 : Below wr.heap.size wr w2' := by rw [← hw2']; exact (Below.refl _ _).drew
  have HB2' := Lh hb2
  have h2 := HSX.out w2' (hb2.block _ hwl) (hb2.block _ hbl)
  have hsz2 : w2'.heap.size = wr.heap.size := by rw [← hw2']; rfl
  have HSZ2 := Lh hsz2
  have hbw2 : Below w.heap.size w w2' := HBR.out.trans (hb2.mono HBR.out.size)
  have HBW2 := Lh hbw2
  clear hb2 hsz2 hbw2
  refine wp_region_Z 10 (by kernel_rfl) (fun V => V.cell? ⟨w.heap.size, 258, none⟩ = some (.slice (some ⟨b, 0, none⟩) T.es.length n3) ∧ V.cell? ⟨b, k, none⟩ = some (.slice x.a x.l.length x.c)) (by rw [hw2']; exact h2) (fun hHeld => ?_)
  refine zt (v := ?_) 0 rfl ?_ ?_
  rotate_left
  ·intro w hSw; (try dsimp only at hSw); go_simp; (try with_reducible rfl)
  (try simp only [Act.put, zq1, zq2, zq3, zq4, zq5, zq6])
  refine zt (v := ?_) 1 rfl ?_ ?_
  rotate_left
  ·intro w hSw; (try dsimp only at hSw); go_simp; (try with_reducible rfl)
  (try simp only [Act.put, zq1, zq2, zq3, zq4, zq5, zq6])
  refine zt (v := ?_) 2 rfl ?_ ?_
  rotate_left
  ·intro w hSw; (try dsimp only at hSw); go_simp; (try with_reducible rfl)
  (try simp only [Act.put, zq1, zq2, zq3, zq4, zq5, zq6])
  refine zt (v := ?_) 3 rfl ?_ ?_
  rotate_left
  ·intro w hSw; (try dsimp only at hSw); go_simp; (try with_reducible rfl)
  (try simp only [Act.put, zq1, zq2, zq3, zq4, zq5, zq6])
  refine zt (v := ?_) 4 rfl ?_ ?_
  rotate_left
  ·intro w hSw; (try dsimp only at hSw); go_simp; (try with_reducible rfl)
  (try simp only [Act.put, zq1, zq2, zq3, zq4, zq5, zq6])
  refine zt (v := ?_) 5 rfl ?_ ?_
  rotate_left
  ·intro w hSw; (try dsimp only at hSw); go_simp; (try with_reducible rfl)
  (try simp only [Act.put, zq1, zq2, zq3, zq4, zq5, zq6])
  refine zt (v := ?_) 6 rfl ?_ ?_
  rotate_left
  ·intro w hSw; (try dsimp only at hSw); go_simp; (try with_reducible rfl)
  (try simp only [Act.put, zq1, zq2, zq3, zq4, zq5, zq6])
  refine zt (v := ?_) 7 rfl ?_ ?_
  rotate_left
  ·intro w hSw; (try dsimp only at hSw); go_simp; (try with_reducible rfl)
  (try simp only [Act.put, zq1, zq2, zq3, zq4, zq5, zq6])
  rw [hw2']
  refine zr 8 rfl fun K hK => ?_
  go_simp
  refine (dOwn_st w2' (HXW.out w2' HBW2.out) hpl HPP.out x.c).mono ?_
  rintro e w5 ⟨A5, c5, l5, rfl, HL5, HD5, HBX5⟩
  have hl5 : l5.length = x.l.length := by have := congrArg List.length HL5.out; simpa using this
  have HLL := Lh hl5
  rw [hl5]
  have hb5 : Below wr.heap.size wr w5 := HB2'.out.trans (HBX5.out.mono (by rw [HSZ2.out]; exact Nat.le_refl _))
  have h5 := HSX.out w5 (hb5.block _ hwl) (hb5.block _ hbl)
  have hf5 : w5.frozen? ⟨b, k, none⟩ = false := (own_keep HF.out.fil.own fun j hj => hb5.block j (own_ty HF.out.fil.own hj).2.1).frozenAt _
  have HF2 : Hid (FillK wa.heap.size 57 1 (fun o => [OutI.v o]) OutW OutI.L (some ⟨b, 0, none⟩) n3 T.es (l.set k ⟨A5, c5, l5⟩) (k + 1) u2 (w5.setCell ⟨b, k, none⟩ (.slice A5 x.l.length c5))) := Lh (by
   have h8 := HF.out.step (x' := (⟨A5, c5, l5⟩ : OutI)) (i := 0) (v := .slice A5 x.l.length c5) (fun _ => rfl) HX.out rfl (by decide) (by show [Value.slice A5 l5.length c5] = _; rw [HLL.out]; rfl) (by show l5.map TermI.L = x.l.map TermI.L; rw [HL5.out]) hb5 (fun V hV => HD5.out V (fun q hq hl => hV q (by rw [← HSZ2.out]; exact hq) hl)) (by have := HZ9.out; have := HZU1.out; have := HZU2.out; omega)
   rwa [Nat.mul_one, Nat.add_zero] at h8)
  clear hb5 hl5
  refine hK.out _ _ (h5) (fun hHeld => ?_)
  clear hK K
  (try simp only [Act.put, zq1, zq2, zq3, zq4, zq5, zq6])
  refine zr 9 rfl fun K hK => ?_
  go_simp
  refine hK.out _ _ (h5) (fun hHeld => ?_)
  clear hK K
  (try simp only [Act.put, zq1, zq2, zq3, zq4, zq5, zq6])
  refine wpAnyZ_last (i := 10) rfl (by kernel_rfl) (by kernel_rfl) rfl (fun K hK => ?_)
  go_simp
  refine hK.out _ _ ?_
  clear hHeld hK K h5 hf5 h2 hw2'
  (try simp only [Act.put, zq1, zq2, zq3, zq4, zq5, zq6])
  go_wp2_with fail
  go_roundw
  case rel => exact ⟨k + 1, _, by omega, by go_num, HF2⟩
  case measure => simp [intOf]; omega
 obtain rfl : k = T.es.length := by omega
 have hd : decide (T.es.length < T.es.length) = false := by simp
 have HE := Lh (HF.out.rows (Nat.le_refl _) (by omega))
 have HTI : Hid (TabC cs1 ⟨T.cls, A1, n1, l1, A2, n2, l2, A3, n3, l⟩) := Lh (by
  have h8 := putT_C HC.out A1 n1 l1 A2 n2 l2 A3 n3 l
  rw [HN.out.2.2, HA.out.2.2, HE.out.2.2, HCS1.out] at h8
  exact h8)
 have HI1 : Hid ((Tryz.prog.info? 49).map (·.size) = some cs1.size) := Lh (by rw [HTI.out.size]; exact info_tabS)
 obtain ⟨dc, hdc⟩ : ∃ z, (drvC cs1 0 none 0 [] 0).toArray = z := ⟨_, rfl⟩
 have HBD : Hid (Tryz.prog.built 180 [(0, .agg cs1)] = some dc) := Lh (by rw [built_drv cs1 HTI.out.size, hdc])
 have HDC := Lh hdc
 have HFIN : Hid (RetNew w T true (.returned (.tuple #[.pointer (some ⟨wr.heap.size, 0, none⟩), .int .i64 0])) (wr.alloc (.cells dc 180))) := Lh (by
  have hws : w.heap.size < wa.heap.size := by have := HSA.out; omega
  have hz9 := HZ9.out
  have hz1 := HZU1.out
  have hz2 := HZU2.out
  have hz3 := HF.out.sz
  have hA1 : ∀ j, ownA A1 = some j → wa.heap.size ≤ j ∧ j < w9.heap.size := fun j hj => ⟨(own_ty HR1.out hj).1, (own_ty HR1.out hj).2.1⟩
  have hA2 : ∀ j, ownA A2 = some j → wa.heap.size ≤ j ∧ j < w9.heap.size := fun j hj => ⟨(own_ty HR2.out hj).1, (own_ty HR2.out hj).2.1⟩
  have hA3 : ∀ j, ownA A3 = some j → wa.heap.size ≤ j ∧ j < w9.heap.size := fun j hj => ⟨(own_ty HR3.out hj).1, (own_ty HR3.out hj).2.1⟩
  refine .inr ⟨rfl, wr.heap.size, cs1, _, rfl, Lh ⟨HTI.out, ?_⟩, Lh (by show _ = _; rw [heap_alloc_new wr _, ← HDC.out]), Lh (fun U hU => ?_), Lh (HBR.out.alloc HBR.out.size _), HBR.out.size⟩
  ·show (⟨T.cls, l1.map NodeI.L, l2.map ActI.L, l.map OutI.L⟩ : TabL) = ⟨T.cls, T.ns.map NodeI.L, T.acts.map ActI.L, T.es.map OutI.L⟩
   rw [HN.out.2.1, HA.out.2.1, HE.out.2.1]
  ·have hUr : ∀ j, w.heap.size ≤ j → j < wr.heap.size → U.heap[j]? = wr.heap[j]? := fun j h1 h2 => (hU j ⟨h1, by omega⟩ (by simp; omega)).trans (Below.heap_alloc _ _ _ h2)
   have hU2 : ∀ j, w.heap.size ≤ j → j < u2.heap.size → ownA A3 ≠ some j → U.heap[j]? = u2.heap[j]? := fun j h1 h2 h3 => (hUr j h1 (by omega)).trans (HF.out.kp j h2 h3)
   have hU1 : ∀ j, w.heap.size ≤ j → j < u1.heap.size → ownA A3 ≠ some j → ownA A2 ≠ some j → U.heap[j]? = u1.heap[j]? := fun j h1 h2 h3 h4 => (hU2 j h1 (by omega) h3).trans (HF2.out.kp j h2 h4)
   refine ⟨HN.out.1 U fun j hj hl => ?_, HA.out.1 U fun j hj hl => ?_, HE.out.1 U fun j hj hl => ?_⟩
   ·rcases hj with hj | hj
    ·exact hU1 j (by omega) hl (fun e => by have := hA3 j e; omega) (fun e => by have := hA2 j e; omega)
    ·exact hU1 j (by have := hA1 j hj; omega) hl (fun e => own_apart HR1.out HR3.out tyNT j hj e) (fun e => own_apart HR1.out HR2.out tyNA j hj e)
   ·rcases hj with hj | hj
    ·exact hU2 j (by omega) hl (fun e => by have := hA3 j e; omega)
    ·exact hU2 j (by have := hA2 j hj; omega) hl (fun e => own_apart HR2.out HR3.out tyAT' j hj e)
   ·rcases hj with hj | hj
    ·exact hUr j (by omega) hl
    ·exact hUr j (by have := hA3 j hj; omega) hl)
 clear hdc
 go_wp2_with (first
  | (refine wpList_load_row rfl 49 _ rfl w.heap.size rfl _ cs1 _ _ hxr Tryz.underlying49 rfl HI1.out ?_)
  | (refine wpList_buildD rfl 180 _ rfl [(0, .agg cs1)] (by simp [go_sem]) dc HBD.out ?_))
 go_ret2
 exact HFIN.out
end
end Go.Proofs.YtlmkokeapbleoaaGreat
