/- A region that draws its order and whose last operations, from z on, wait for all the others: what must hold for its loads need not hold behind those (S2: what holds behind all). Two operations may come up at once. An append of one record at any world. Condition: the operations from z on wait for each one that is taken first. Words for the places that box.Boxes puts together in a finder's cells: the keys, each one's parts in a row of its own; a place more, a part more. A range over a function whose loop variable is boxed. No function of the program in sight. Condition: none. -/
import Derived.Test.YtpmhdjiacgckjaaM06
import Derived.Test.YtpmhdjiacgckjaaM09
import Derived.Test.YtpmhdjiacgckjaaM18
import Derived.RangeFuncNested
section
namespace Go.Proofs.Ytpmhdjiacgckjaa
open Go.RowKit Go.Shelf
set_option linter.unusedVariables false
/-- operations that cannot come up as long as i has not: each of them waits for i or for another one of them; all from z on are among them -/
def blk (md : Region.Mode) (ops : Array Oper) (z : Nat) (Bk : List Nat) (listed : Array Bool) (i : Nat) : Bool :=
  (Bk.all fun k => !listed.getD k true && (waitsOn md ops k i || Bk.any fun k' => waitsOn md ops k k')) && (List.range listed.size).all fun j => decide (j < z) || Bk.contains j
/-- has an operation from z on come? -/
def anyLate (z : Nat) (listed : Array Bool) : Bool := (List.range listed.size).any fun j => decide (z ≤ j) && listed.getD j false
/-- whatever order is picked: S2 holds behind each operation, S as long as none from z on has come -/
def wpAnyY (P : Program) (md : Region.Mode) (ops : Array Oper) (Q : Exit → Act → World → Prop) (S S2 : World → Prop) (z : Nat) : Nat → Array Bool → Act → World → Prop
  | 0, listed, a, w => Region.ready md ops listed = [] ∧ Q .normal a w
  | fuel + 1, listed, a, w => (Region.ready md ops listed = [] → Q .normal a w) ∧
    ∀ i ∈ Region.ready md ops listed, wpOp P ops Q i (fun a' w' => (S2 w' ∧ (anyLate z (listed.setIfInBounds i true) = true ∨ S w')) ∧ wpAnyY P md ops Q S S2 z fuel (listed.setIfInBounds i true) a' w') a w
section
variable {P : Program} {ops : Array Oper} {Q : Exit → Act → World → Prop} {md : Region.Mode} {S S2 T : World → Prop} {z : Nat}
theorem wpAny_of_Y : ∀ (fuel : Nat) (listed : Array Bool) (a : Act) (w : World), wpAnyY P md ops Q S S2 z fuel listed a w → wpAny P md ops Q fuel listed a w
  | 0, _, _, _, h => h
  | fuel + 1, _, _, _, h => ⟨h.1, fun i hi => wpOp_mono (fun a' w' h' => wpAny_of_Y fuel _ a' w' h'.2) (h.2 i hi)⟩
theorem ready_unlisted {listed : Array Bool} {j k : Nat} {oj : Oper} (hk : listed.getD k true = false) (hj : j ∈ Region.ready md ops listed) (hoj : ops[j]? = some oj) : ∀ e ∈ oj.after, Region.binds md e = true → e.on ≠ k := fun e he hb heq => by
  obtain ⟨_, o, ho, hall⟩ := mem_ready.1 hj
  rw [hoj] at ho; injection ho with ho; subst ho
  have h7 := hall e he hb
  rw [heq] at h7
  rcases Nat.lt_or_ge k listed.size with hl | hl
  · simp [hl] at hk h7; rw [hk] at h7; cases h7
  · simp [Array.getElem?_eq_none hl] at h7
theorem anyLate_mono {listed : Array Bool} (j : Nat) (h : anyLate z listed = true) : anyLate z (listed.setIfInBounds j true) = true := by
  unfold anyLate at h ⊢
  rw [List.any_eq_true] at h ⊢
  obtain ⟨k, hk, he⟩ := h
  refine ⟨k, by simpa using hk, ?_⟩
  simp only [Bool.and_eq_true, decide_eq_true_eq] at he ⊢
  refine ⟨he.1, ?_⟩
  have hl : k < listed.size := by simpa using hk
  by_cases hjk : j = k
  · subst hjk; simp [Array.getD, hl]
  · rw [getD_set_ne false hjk]; exact he.2
theorem anyLate_set {listed : Array Bool} {j : Nat} (hz : j < z) (h : anyLate z (listed.setIfInBounds j true) = true) : anyLate z listed = true := by
  unfold anyLate at h ⊢
  rw [List.any_eq_true] at h ⊢
  obtain ⟨k, hk, he⟩ := h
  refine ⟨k, by simpa using hk, ?_⟩
  simp only [Bool.and_eq_true, decide_eq_true_eq] at he ⊢
  refine ⟨he.1, ?_⟩
  rw [getD_set_ne false (by omega : j ≠ k)] at he
  exact he.2
theorem blk_late {Bk : List Nat} {listed : Array Bool} {i : Nat} (h : blk md ops z Bk listed i = true) : anyLate z listed = false := by
  rcases hl : anyLate z listed with _ | _
  · rfl
  · exfalso
    unfold anyLate at hl
    rw [List.any_eq_true] at hl
    obtain ⟨k, hk, he⟩ := hl
    simp only [Bool.and_eq_true, decide_eq_true_eq] at he
    unfold blk at h
    rw [Bool.and_eq_true, List.all_eq_true, List.all_eq_true] at h
    have h1 := h.2 k hk
    simp only [Bool.or_eq_true, decide_eq_true_eq] at h1
    have hm := h1.resolve_left (by omega)
    have h2 := h.1 k (by simpa using hm)
    rw [Bool.and_eq_true] at h2
    have hkl : k < listed.size := List.mem_range.1 hk
    have h3 := h2.1
    have h4 := he.2
    simp [Array.getD, hkl] at h3 h4
    rw [h3] at h4; cases h4
theorem blk_not {Bk : List Nat} {listed : Array Bool} {i j : Nat} {oj : Oper} (h : blk md ops z Bk listed i = true) (hi : listed.getD i true = false) (hj : j ∈ Region.ready md ops listed) (hoj : ops[j]? = some oj) : j ∉ Bk := fun hm => by
  unfold blk at h
  rw [Bool.and_eq_true, List.all_eq_true] at h
  have h2 := h.1 j hm
  simp only [Bool.and_eq_true, Bool.or_eq_true, Bool.not_eq_true'] at h2
  rcases h2.2 with h3 | h3
  · exact waits_not h3 hoj (ready_unlisted hi hj hoj)
  · rw [List.any_eq_true] at h3
    obtain ⟨k, hk, hw⟩ := h3
    have h4 := h.1 k hk
    simp only [Bool.and_eq_true, Bool.or_eq_true, Bool.not_eq_true'] at h4
    exact waits_not hw hoj (ready_unlisted h4.1 hj hoj)
theorem blk_set {Bk : List Nat} {listed : Array Bool} {i j : Nat} (h : blk md ops z Bk listed i = true) (hj : j ∉ Bk) : blk md ops z Bk (listed.setIfInBounds j true) i = true := by
  unfold blk at h ⊢
  rw [Bool.and_eq_true, List.all_eq_true, List.all_eq_true] at h ⊢
  refine ⟨fun k hk => ?_, fun k hk => h.2 k (by simpa using hk)⟩
  have hjk : j ≠ k := fun e => hj (by rw [e]; exact hk)
  rw [getD_set_ne true hjk]
  exact h.1 k hk
theorem wpAnyY_first {i : Nat} {oi : Oper} {v : Value} (hi : ops[i]? = some oi) (hsel : ∀ (j : Nat) (o : Oper) cs b, ops[j]? = some o → o.op ≠ .select cs b)
    (hQ : ∀ c a w, Q (.panic c) (a.put oi.dst v) w → Q (.panic c) a w) (Bk : List Nat) (hiz : i < z) :
    ∀ (fuel : Nat) (listed : Array Bool) (a : Act) (w : World), ((∀ w, S2 w → T w) ∨ ((∀ w, S w → T w) ∧ blk md ops z Bk listed i = true)) →
      (∀ j oj, ops[j]? = some oj → j ≠ i → listed.getD j true = false → (∀ e ∈ oj.after, Region.binds md e = true → e.on ≠ i) → oi.apart ops oj = true) →
      i ∈ Region.ready md ops listed → YieldsIf P ops T oi v a → S2 w → T w → (anyLate z listed = true ∨ S w) →
      wpAnyY P md ops Q S S2 z fuel (listed.setIfInBounds i true) (a.put oi.dst v) w → wpAnyY P md ops Q S S2 z (fuel + 1) listed a w := by
  intro fuel
  induction fuel with
  | zero =>
    intro listed a w hB _ hr hy hS2 hT hS H
    refine ⟨fun h => absurd hr (by rw [h]; exact List.not_mem_nil), fun j hj => ?_⟩
    by_cases hji : j = i
    · subst hji; exact hy.wpOp hi hT ⟨⟨hS2, hS.imp (anyLate_mono _) id⟩, H⟩
    · have h1 := ready_mono hj hji
      rw [H.1] at h1
      exact absurd h1 List.not_mem_nil
  | succ fuel ih =>
    intro listed a w hB hfree hr hy hS2 hT hS H
    refine ⟨fun h => absurd hr (by rw [h]; exact List.not_mem_nil), fun j hj => ?_⟩
    by_cases hji : j = i
    · subst hji; exact hy.wpOp hi hT ⟨⟨hS2, hS.imp (anyLate_mono _) id⟩, H⟩
    have h1 := H.2 j (ready_mono hj hji)
    obtain ⟨hun, oj, hoj, hall⟩ := mem_ready.1 hj
    have hi0 := (mem_ready.1 hr).1
    have hnot := ready_unlisted hi0 hj hoj
    have h2 := wpOp_putIf hoj (hfree j oj hoj hji hun hnot) (fun cs b => hsel i oi cs b hi) (fun cs b => hsel j oj cs b hoj) hQ hy h1
    have hfree2 : ∀ k ok, ops[k]? = some ok → k ≠ i → (listed.setIfInBounds j true).getD k true = false → (∀ e ∈ ok.after, Region.binds md e = true → e.on ≠ i) → oi.apart ops ok = true := fun k ok hk hki hu hno => by
      refine hfree k ok hk hki ?_ hno
      by_cases hjk : j = k
      · subst hjk; exact hun
      · rw [getD_set_ne true hjk] at hu; exact hu
    refine wpOp_mono (fun a' w' h3 => ?_) h2
    have hS2' := h3.2.1.1
    have hL := h3.2.1.2
    rw [Array.setIfInBounds_comm _ _ (Ne.symm hji)] at hL
    have hL2 : anyLate z (listed.setIfInBounds j true) = true ∨ S w' := hL.imp (anyLate_set hiz) id
    have hB2 : (∀ w, S2 w → T w) ∨ ((∀ w, S w → T w) ∧ blk md ops z Bk (listed.setIfInBounds j true) i = true) := hB.imp id fun h => ⟨h.1, blk_set h.2 (blk_not h.2 hi0 hj hoj)⟩
    have hT2 : T w' := by
      rcases hB2 with h | ⟨h, hb⟩
      · exact h _ hS2'
      · refine h _ (hL2.resolve_left fun e => ?_)
        rw [blk_late hb] at e; cases e
    refine ⟨⟨hS2', hL2⟩, ih (listed.setIfInBounds j true) a' w' hB2 hfree2 (ready_mono hr (Ne.symm hji)) h3.1 hS2' hT2 hL2 ?_⟩
    rw [Array.setIfInBounds_comm _ _ hji]
    exact h3.2.2
/-- an operation that needs S is taken first -/
theorem wpAnyY_take {i : Nat} {oi : Oper} {v : Value} {fuel : Nat} {listed : Array Bool} {a : Act} {w : World} (Bk : List Nat) (hi : ops[i]? = some oi)
    (hs : Region.noSelect ops = true) (hf : Region.free md ops listed i = true) (hr : (Region.ready md ops listed).contains i = true) (hw : blk md ops z Bk listed i = true) (hiz : Nat.blt i z = true)
    (hQ : ∀ c a w, Q (.panic c) (a.put oi.dst v) w → Q (.panic c) a w) (hy : YieldsIf P ops S oi v a) (hSS : ∀ w, S w → S2 w) (hS : S w)
    (h : wpAnyY P md ops Q S S2 z fuel (listed.setIfInBounds i true) (a.put oi.dst v) w) : wpAnyY P md ops Q S S2 z (fuel + 1) listed a w :=
  wpAnyY_first hi (Region.noSelect_spec hs) hQ Bk (by simpa using hiz) fuel listed a w (.inr ⟨fun _ h => h, hw⟩) (Region.free_spec hi hf) (by simpa using hr) hy (hSS _ hS) hS (.inr hS) h
/-- .. that needs S2 alone -/
theorem wpAnyY_take2 {i : Nat} {oi : Oper} {v : Value} {fuel : Nat} {listed : Array Bool} {a : Act} {w : World} (hi : ops[i]? = some oi)
    (hs : Region.noSelect ops = true) (hf : Region.free md ops listed i = true) (hr : (Region.ready md ops listed).contains i = true) (hiz : Nat.blt i z = true)
    (hQ : ∀ c a w, Q (.panic c) (a.put oi.dst v) w → Q (.panic c) a w) (hy : YieldsIf P ops S2 oi v a) (hSS : ∀ w, S w → S2 w) (hS : S w)
    (h : wpAnyY P md ops Q S S2 z fuel (listed.setIfInBounds i true) (a.put oi.dst v) w) : wpAnyY P md ops Q S S2 z (fuel + 1) listed a w :=
  wpAnyY_first hi (Region.noSelect_spec hs) hQ [] (by simpa using hiz) fuel listed a w (.inl fun _ h => h) (Region.free_spec hi hf) (by simpa using hr) hy (hSS _ hS) (hSS _ hS) (.inr hS) h
theorem wpAnyY_ready {i : Nat} {fuel : Nat} {listed : Array Bool} {a : Act} {w : World} {o : Oper} (hr : Region.ready md ops listed = [i]) (ho : ops[i]? = some o) (hSS : ∀ w, S w → S2 w)
    (h : ∀ K' : Act → World → Prop, Shut (∀ a w, S w → (S w → wpAnyY P md ops Q S S2 z fuel (listed.setIfInBounds i true) a w) → K' a w) → if Region.wanted o (yielded ops a.tmps) = true then Oper.wp P o a w K' Q else K' (a.put o.dst undef) w) :
    wpAnyY P md ops Q S S2 z (fuel + 1) listed a w :=
  ⟨fun h0 => absurd (hr.symm.trans h0) (by simp), by
    rw [hr]
    intro j hj
    rcases List.mem_singleton.1 hj with rfl
    exact wpOp_step ho (fun K' hK => h K' (fun a w hS hW => hK a w ⟨⟨hSS _ hS, .inr hS⟩, hW hS⟩))⟩
/-- .. one of two -/
theorem wpAnyY_ready2 {i j : Nat} {fuel : Nat} {listed : Array Bool} {a : Act} {w : World} {o o2 : Oper} (hr : Region.ready md ops listed = [i, j]) (ho : ops[i]? = some o) (ho2 : ops[j]? = some o2) (hSS : ∀ w, S w → S2 w)
    (h : ∀ K' : Act → World → Prop, Shut (∀ a w, S w → (S w → wpAnyY P md ops Q S S2 z fuel (listed.setIfInBounds i true) a w) → K' a w) → if Region.wanted o (yielded ops a.tmps) = true then Oper.wp P o a w K' Q else K' (a.put o.dst undef) w)
    (h2 : ∀ K' : Act → World → Prop, Shut (∀ a w, S w → (S w → wpAnyY P md ops Q S S2 z fuel (listed.setIfInBounds j true) a w) → K' a w) → if Region.wanted o2 (yielded ops a.tmps) = true then Oper.wp P o2 a w K' Q else K' (a.put o2.dst undef) w) :
    wpAnyY P md ops Q S S2 z (fuel + 1) listed a w :=
  ⟨fun h0 => absurd (hr.symm.trans h0) (by simp), by
    rw [hr]
    intro k hk
    rcases List.mem_cons.1 hk with rfl | hk
    · exact wpOp_step ho (fun K' hK => h K' (fun a w hS hW => hK a w ⟨⟨hSS _ hS, .inr hS⟩, hW hS⟩))
    · rcases List.mem_singleton.1 hk with rfl
      exact wpOp_step ho2 (fun K' hK => h2 K' (fun a w hS hW => hK a w ⟨⟨hSS _ hS, .inr hS⟩, hW hS⟩))⟩
/-- an operation from z on -/
theorem wpAnyY_late {i : Nat} {fuel : Nat} {listed : Array Bool} {a : Act} {w : World} {o : Oper} (hz : anyLate z (listed.setIfInBounds i true) = true) (hr : Region.ready md ops listed = [i]) (ho : ops[i]? = some o)
    (h : ∀ K' : Act → World → Prop, Shut (∀ a w, S2 w → wpAnyY P md ops Q S S2 z fuel (listed.setIfInBounds i true) a w → K' a w) → if Region.wanted o (yielded ops a.tmps) = true then Oper.wp P o a w K' Q else K' (a.put o.dst undef) w) :
    wpAnyY P md ops Q S S2 z (fuel + 1) listed a w :=
  ⟨fun h0 => absurd (hr.symm.trans h0) (by simp), by
    rw [hr]
    intro j hj
    rcases List.mem_singleton.1 hj with rfl
    exact wpOp_step ho (fun K' hK => h K' (fun a w h2 hW => hK a w ⟨⟨h2, .inl hz⟩, hW⟩))⟩
theorem wpAnyY_last {i : Nat} {fuel : Nat} {listed : Array Bool} {a : Act} {w : World} {o : Oper} (hz : anyLate z (listed.setIfInBounds i true) = true) (hr : Region.ready md ops listed = [i]) (hr2 : Region.ready md ops (listed.setIfInBounds i true) = []) (ho : ops[i]? = some o)
    (h : ∀ K' : Act → World → Prop, Shut (∀ a w, S2 w → Q .normal a w → K' a w) → if Region.wanted o (yielded ops a.tmps) = true then Oper.wp P o a w K' Q else K' (a.put o.dst undef) w) :
    wpAnyY P md ops Q S S2 z (fuel + 1) listed a w :=
  ⟨fun h0 => absurd (hr.symm.trans h0) (by simp), by
    rw [hr]
    intro j hj
    rcases List.mem_singleton.1 hj with rfl
    refine wpOp_step ho (fun K' hK => h K' (fun a w h2 hq => hK a w ⟨⟨h2, .inl hz⟩, ?_⟩))
    cases fuel with
    | zero => exact ⟨hr2, hq⟩
    | succ n => exact ⟨fun _ => hq, by rw [hr2]; intro k hk; exact absurd hk List.not_mem_nil⟩⟩
theorem wp_region_YN {id : Nat} {a : Act} {w : World} (z : Nat) (hm : P.follows .mixedOrders = true) (S S2 : World → Prop) (hS : S w.drew)
    (h : S w.drew → wpAnyY P .any ops (NoPanic Q) S S2 z ops.size (Array.replicate ops.size false) a w.drew) : (Code.region id ops true).wp P Q a w :=
  wp_region_noPanic (wp_region_any hm (wpAny_of_Y _ _ _ _ (h hS)))
theorem region_round_Y {id : Nat} {a : Act} {w : World} {l n : Nat} (z : Nat) (hnd : ops.all noDefer = true) (hQ : ∀ a w, ¬ Q .outgrown a w) (hm : P.follows .mixedOrders = true)
    (S S2 : World → Prop) (hS : S w.drew) (h : S w.drew → wpAnyY P .any ops Q S S2 z ops.size (Array.replicate ops.size false) a w.drew) : (Code.region id ops true).wpIn (Fence.wide.inRound l) n P Q a w :=
  region_round hnd hQ hm (wpAny_of_Y _ _ _ _ (h hS))
/-- 'append' of one record that lies somewhere, as a step of a region that draws its order -/
theorem step_pushA {w1 : World} {o : Oper} {a : Act} {K : Act → World → Prop} {E : Prop} (hgd : o.guard = none) (s x : Operand) (t : TypeId)
    (ho : o.op = .call { callee := .builtin .append, args := #[s, x], argTypes := #[t, t] })
    (base : Nat) (e : TypeId) (i : TypeInfo) (z0 : Value) (size bytes : Nat) (ht : P.underlying t = some (.slice e)) (hi : P.info? e = some i) (hz : i.zero = some z0)
    (hsize : i.size = size) (hby : i.bytes = bytes) (hzs : z0.cells.size = size) (hsz : 0 < size)
    {A : Option Addr} {c n : Nat} {xs : List Value} (hown : w1.ownsRow base e size (.slice A n c) n xs) (hs : a.eval s = .slice A n c)
    (lb : Nat) (news : List Value) (e' : TypeId) (hx : a.eval x = .slice (some ⟨lb, 0, none⟩) 1 1) (hlb : w1.heap[lb]? = some (.cells news.toArray e' (0, 0))) (hl : news.length = size) (h1 : ∀ u ∈ news, u.oneCell' = true)
    (hn : n < 1099511627776) (hb : bytes ≤ 128) (hbase : base ≤ w1.heap.size)
    (h : ∀ A' c' w', Hid (w'.ownsRow base e size (.slice A' (n + 1) c') (n + 1) (xs ++ news)) → Hid (w1.grownBy w' (ownA A)) → Hid (Newer (ownA A) (ownA A') w1.heap.size) → K (a.put o.dst (.slice A' (n + 1) c')) w') :
    if Region.wanted o (yielded ops a.tmps) = true then Oper.wp P o a w1 K Q else E := by
  have hw : Region.wanted o (yielded ops a.tmps) = true := by simp [Region.wanted, hgd]
  rw [if_pos hw]
  obtain ⟨v', w', hr, r2, r3, _, r5⟩ := run_append_own_at (P := P) (w := w1) base t o.type e i z0 size bytes ht hi hz hsize hby hzs hsz (.slice A n c) n xs hown ⟨lb, 0, none⟩ 1 1 news (by omega)
    (by
      intro j u hu
      have e0 : (⟨lb, 0, none⟩ : Addr).add j = ⟨lb, 0 + j, none⟩ := by unfold Addr.add; split <;> simp_all
      rw [e0]
      simp only [World.cell?, hlb]
      simpa using hu)
    h1 (by unfold maxLen; omega) (by have : (n + 1) * bytes ≤ (n + 1) * 128 := Nat.mul_le_mul_left _ hb; omega) (by omega)
  obtain ⟨A', c', rfl⟩ := own_shape r2
  rw [own_ownA] at r3 r5
  rw [own_ownA] at r5
  unfold Oper.wp execOp
  simp only [ho, resolve, invoke, builtin, Sem.run_bind, Sem.run_pure, Result.andThen_ok, List.map_toArray, List.map_cons, List.map_nil, hs, hx, hr]
  refine h A' c' w' (Lib.hid r2) (Lib.hid r3) (Lib.hid ?_)
  rcases r5 with h | h
  · exact .inl h
  · exact .inr ⟨_, h, Nat.le_refl _⟩
end
end Go.Proofs.Ytpmhdjiacgckjaa
end
section
namespace Go.Proofs.Ytpmhdjiacgckjaa
open Go.RowKit Go.Shelf
set_option linter.unusedVariables false
set_option linter.unusedSimpArgs false
theorem own_ty {W : World} {m sz n c : Nat} {et : TypeId} {A : Option Addr} {xs : List Value} (h : W.ownsRow m et sz (.slice A n c) n xs) {k : Nat} (hk : ownA A = some k) : m ≤ k ∧ k < W.heap.size ∧ ∃ cur, W.heap[k]? = some (.cells cur et (0, 0)) := by
  have hl := h.lt k (by rw [own_ownA]; exact hk)
  refine ⟨hl.1, hl.2, ?_⟩
  rcases h.2 with ⟨e, _⟩ | ⟨g, cap, cur, e, _, hh, _⟩
  · injection e with e1; subst e1; cases hk
  · injection e with e1; subst e1
    injection hk with hk; simp only at hk; subst hk
    exact ⟨cur, hh⟩
theorem own_apart {W : World} {m m' sz sz' n n' c c' : Nat} {et et' : TypeId} {A A' : Option Addr} {xs xs' : List Value} (h : W.ownsRow m et sz (.slice A n c) n xs) (h' : W.ownsRow m' et' sz' (.slice A' n' c') n' xs') (hne : et ≠ et') : ∀ k, ownA A = some k → ownA A' ≠ some k := fun k hk hk' => by
  obtain ⟨_, _, cur, e⟩ := own_ty h hk
  obtain ⟨_, _, cur', e'⟩ := own_ty h' hk'
  rw [e] at e'
  injection e' with e'; injection e' with _ e'
  exact hne e'
theorem own_uniq {W : World} {m sz n c : Nat} {et : TypeId} {A : Option Addr} {xs xs' : List Value} (h : W.ownsRow m et sz (.slice A n c) n xs) (h' : W.ownsRow m et sz (.slice A n c) n xs') : xs = xs' := by
  rcases h.2 with ⟨e, hn⟩ | ⟨g, cap, cur, e, _, hh, _, _, _, ht⟩
  · have h1 := h.1; have h2 := h'.1
    rw [hn, Nat.zero_mul] at h1 h2
    rw [List.eq_nil_of_length_eq_zero h1, List.eq_nil_of_length_eq_zero h2]
  · rcases h'.2 with ⟨e2, _⟩ | ⟨g2, cap2, cur2, e2, _, hh2, _, _, _, ht2⟩
    · rw [e] at e2; cases e2
    · rw [e] at e2
      injection e2 with e2; injection e2 with e2; injection e2 with e2
      subst e2
      rw [hh] at hh2
      injection hh2 with hh2; injection hh2 with hh2
      subst hh2
      rw [← ht, ← ht2]
theorem ownsRow_setK {W : World} {m b c : Nat} {et : TypeId} {xs : List Value} {n : Nat} (h : W.ownsRow m et 1 (.slice (some ⟨b, 0, none⟩) n c) n xs) (k : Nat) (v : Value) : (W.setCell ⟨b, k, none⟩ v).ownsRow m et 1 (.slice (some ⟨b, 0, none⟩) n c) n (xs.set k v) := by
  refine ⟨by simpa using h.1, ?_⟩
  rcases h.2 with ⟨e, _⟩ | ⟨g, cap, cur, e, hg, hh, hc, hm, hs, ht⟩
  · cases e
  · injection e with e1 e2 e3
    injection e1 with e1; injection e1 with e1; subst e1; subst e3
    refine .inr ⟨b, c, cur.setIfInBounds k v, rfl, hg, heap_setCell_same W b k cur et v hh, hc, hm, by simpa using hs, ?_⟩
    rw [Array.toList_setIfInBounds, List.take_set, ht]
/-- these blocks alone may have been written, and none that is no cells -/
structure Grew (R : Nat → Prop) (W W' : World) : Prop where
  os : W'.os = W.os
  tape : W'.tape = W.tape
  output : W'.output = W.output
  oth : KeepsOthers W W'
  block : ∀ k, k < W.heap.size → ¬ R k → W'.heap[k]? = W.heap[k]?
section
variable {R : Nat → Prop} {W W' W'' : World}
theorem Grew.refl (R : Nat → Prop) (W : World) : Grew R W W := ⟨rfl, rfl, rfl, KeepsOthers.refl _, fun _ _ _ => rfl⟩
theorem Grew.size (h : Grew R W W') : W.heap.size ≤ W'.heap.size := h.oth.size
theorem Grew.trans {R' : Nat → Prop} (h : Grew R W W') (h' : Grew R' W' W'') (hR : ∀ k, k < W.heap.size → R' k → R k) : Grew R W W'' :=
  ⟨h'.os.trans h.os, h'.tape.trans h.tape, h'.output.trans h.output, h.oth.trans h'.oth, fun k hk hn => (h'.block k (Nat.lt_of_lt_of_le hk h.size) (fun hr => hn (hR k hk hr))).trans (h.block k hk hn)⟩
theorem Grew.alloc (h : Grew R W W') (o : Obj) : Grew R W (W'.alloc o) :=
  h.trans (R' := fun _ => False) ⟨rfl, rfl, rfl, KeepsOthers.alloc _ _, fun k hk _ => Below.heap_alloc _ _ _ hk⟩ (fun _ _ h => h.elim)
theorem Grew.drew (h : Grew R W W') : Grew R W W'.drew :=
  h.trans (R' := fun _ => False) ⟨rfl, rfl, rfl, KeepsOthers.drew _, fun k hk _ => rfl⟩ (fun _ _ h => h.elim)
theorem Grew.of_below (h : Below W.heap.size W W') : Grew R W W' := ⟨h.os, h.tape, h.output, ⟨h.size, fun k o hk _ => (h.block k (Array.getElem?_eq_some_iff.1 hk).1).trans hk⟩, fun k hk _ => h.block k hk⟩
theorem Grew.grown {m sz n c : Nat} {et : TypeId} {A : Option Addr} {xs : List Value} (h : Grew R W W') (ho : W'.ownsRow m et sz (.slice A n c) n xs) (hg : W'.grownBy W'' (ownA A)) (hR : ∀ k, k < W.heap.size → ownA A = some k → R k) : Grew R W W'' :=
  h.trans (R' := fun k => ownA A = some k) ⟨hg.os, hg.tape, hg.output, KeepsOthers.of_grownBy hg (fun j o hj hoj => by
    obtain ⟨_, _, cur, e⟩ := own_ty ho hj
    rw [e] at hoj; cases hoj; rfl), fun k hk hn => hg.block k hk (fun e => hn e.symm)⟩ hR
theorem Grew.setCell (h : Grew R W W') (b i : Nat) (v : Value) (hR : R b ∨ W.heap.size ≤ b) : Grew R W (W'.setCell ⟨b, i, none⟩ v) :=
  h.trans (R' := fun k => k = b) ⟨rfl, rfl, rfl, KeepsOthers.setCell _ _ _, fun k hk hn => heap_setCell_other _ _ _ _ hn⟩ (fun k hk e => by
    rcases hR with h | h
    · rw [e]; exact h
    · omega)
theorem Only.grew {fb : Nat} {w7 : World} (h : Only fb none w7 W) (hg : Grew R W W') (hR : ∀ k, R k → k = fb ∨ w7.heap.size ≤ k) : Only fb none w7 W' :=
  ⟨hg.os.trans h.os, hg.tape.trans h.tape, hg.output.trans h.output, Nat.le_trans h.size hg.size, fun k hk h1 h2 => (hg.block k (Nat.lt_of_lt_of_le hk h.size) (fun hr => by
    rcases hR k hr with h | h
    · exact h1 h
    · omega)).trans (h.block k hk h1 h2)⟩
end
/-- what a round may write: the finder's cells, and what is newer than the loop -/
def OFb (fb m : Nat) (_ : World) (k : Nat) : Prop := k = fb ∨ m ≤ k
theorem oFb_on (B0 fb m : Nat) : OnB B0 (OFb fb m) := fun _ _ _ _ => Iff.rfl
theorem KpO.ofOnly {fb : Nat} {w7 W W' : World} (h : Only fb none w7 W) (h' : Only fb none w7 W') (hs : W.heap.size ≤ W'.heap.size) : KpO (OFb fb w7.heap.size) W W' :=
  ⟨hs, fun p v hv hn => by
    have h1 : p.block ≠ fb := fun e => hn (.inl e)
    have h2 : p.block < w7.heap.size := Nat.lt_of_not_le fun e => hn (.inr e)
    exact (World.cell?_of_block ((h'.block p.block h2 h1 (by simp)).trans (h.block p.block h2 h1 (by simp)).symm)).trans hv, fun k hk => .inl hk, fun hw k hk => by
    have h1 := hw (W.heap.size + w7.heap.size) (.inr (by omega))
    omega⟩
def plC (Q : List Plc) : List Value := Q.map fun q => .int .i64 q.1
def boxPl (v0 v1 : Value) (pa : Option Addr) (pc : Nat) (qa : Option Addr) (qc n : Nat) : Array Value := #[v0, v1, .slice pa n pc, .slice qa n qc, .slice none 0 0, .int .i64 0]
structure PlM (fb m : Nat) (v0 v1 : Value) (pa : Option Addr) (pc : Nat) (qa : Option Addr) (qc : Nat) (Qi : List (Item PartL)) (Q : List Plc) (W : World) : Prop where
  box : W.heap[fb]? = some (.cells (boxPl v0 v1 pa pc qa qc Q.length) 61 (0, 0))
  pl : W.ownsRow m 3 1 (.slice pa Q.length pc) Q.length (plC Q)
  qs : W.ownsRow m 22 1 (.slice qa Q.length qc) Q.length (icells Qi)
  bod : bodies Qi = Q.map (·.2)
  rows : ∀ x ∈ Qi, W.ownsRow m 56 4 (.slice x.1 x.2.2.length x.2.1) x.2.2.length (x.2.2.flatMap partC)
  dist : ∀ (i j : Nat) x y g, Qi[i]? = some x → Qi[j]? = some y → i ≠ j → ownA x.1 = some g → ownA y.1 ≠ some g
/-- a block that is none of these -/
def PlFree (pa qa : Option Addr) (Qi : List (Item PartL)) (b : Nat) : Prop := ownA pa ≠ some b ∧ ownA qa ≠ some b ∧ ∀ x ∈ Qi, ownA x.1 ≠ some b
section
variable {fb m : Nat} {v0 v1 : Value} {pa qa pa' qa' : Option Addr} {pc qc pc' qc' : Nat} {Qi : List (Item PartL)} {Q : List Plc} {W W4 W' : World}
theorem PlM.start (hb : W.heap[fb]? = some (.cells #[v0, v1, .slice none 0 0, .slice none 0 0, .slice none 0 0, .int .i64 0] 61 (0, 0))) : PlM fb m v0 v1 none 0 none 0 [] [] W :=
  ⟨hb, World.ownsRow_nil _ _ _ _, World.ownsRow_nil _ _ _ _, rfl, fun x hx => (by cases hx), fun i j x y g h => (by simp at h)⟩
theorem PlM.lenI (h : PlM fb m v0 v1 pa pc qa qc Qi Q W) : Qi.length = Q.length := by
  have := congrArg List.length h.bod
  rw [bodies_length, List.length_map] at this; exact this
theorem PlM.keep (h : PlM fb m v0 v1 pa pc qa qc Qi Q W) (hk : ∀ k, (k = fb ∨ m ≤ k) → k < W.heap.size → W'.heap[k]? = W.heap[k]?) : PlM fb m v0 v1 pa pc qa qc Qi Q W' :=
  ⟨(hk fb (.inl rfl) (Array.getElem?_eq_some_iff.1 h.box).1).trans h.box, own_keep h.pl fun k hA => hk k (.inr (own_ty h.pl hA).1) (own_ty h.pl hA).2.1, own_keep h.qs fun k hA => hk k (.inr (own_ty h.qs hA).1) (own_ty h.qs hA).2.1, h.bod,
   fun x hx => own_keep (h.rows x hx) fun k hA => hk k (.inr (own_ty (h.rows x hx) hA).1) (own_ty (h.rows x hx) hA).2.1, h.dist⟩
theorem PlM.below (h : PlM fb m v0 v1 pa pc qa qc Qi Q W) (hb : Below W.heap.size W W') : PlM fb m v0 v1 pa pc qa qc Qi Q W' := h.keep fun k _ hl => hb.block k hl
theorem PlM.turn {row : Option Nat} (h : PlM fb m v0 v1 pa pc qa qc Qi Q W) (hg : W.grownBy W' row) (hr : ∀ r, row = some r → ∃ o : Obj, W.heap[r]? = some o ∧ o.isCells = false) : PlM fb m v0 v1 pa pc qa qc Qi Q W' :=
  ⟨(hg.block fb (Array.getElem?_eq_some_iff.1 h.box).1 (fun e => by
      obtain ⟨o, ho, hc⟩ := hr fb e.symm
      rw [h.box] at ho; cases ho; cases hc)).trans h.box, own_turn h.pl hg hr, own_turn h.qs hg hr, h.bod, fun x hx => own_turn (h.rows x hx) hg hr, h.dist⟩
theorem PlM.free_lt (h : PlM fb m v0 v1 pa pc qa qc Qi Q W) {b : Nat} (hb : W.heap.size ≤ b) : PlFree pa qa Qi b :=
  ⟨fun e => by have := own_ty h.pl e; omega, fun e => by have := own_ty h.qs e; omega, fun x hx e => by have := own_ty (h.rows x hx) e; omega⟩
theorem PlM.uniq {Qi' : List (Item PartL)} {Q' : List Plc} (h : PlM fb m v0 v1 pa pc qa qc Qi Q W) (h' : PlM fb m v0 v1 pa' pc' qa' qc' Qi' Q' W) {b : Nat} (hf : PlFree pa' qa' Qi' b) : PlFree pa qa Qi b := by
  have hb := h.box
  rw [h'.box] at hb
  injection hb with hb; injection hb with hb
  unfold boxPl at hb
  injection hb with hb
  simp only [List.cons.injEq, Value.slice.injEq] at hb
  obtain ⟨_, _, ⟨e1, e2, e3⟩, ⟨e4, _, e5⟩, _⟩ := hb
  subst e1; subst e4; subst e5
  have hq := h.qs
  rw [← e2] at hq
  have hu := own_uniq hq h'.qs
  refine ⟨hf.1, hf.2.1, fun x hx e => ?_⟩
  have hm : ival x ∈ icells Qi' := by rw [← hu]; exact List.mem_map.2 ⟨x, hx, rfl⟩
  obtain ⟨y, hy, hyx⟩ := List.mem_map.1 hm
  unfold ival at hyx
  injection hyx with hyx
  exact hf.2.2 y hy (by rw [hyx]; exact e)
theorem boxPl_set2 (v0 v1 : Value) (pa : Option Addr) (pc : Nat) (qa : Option Addr) (qc n : Nat) (v : Value) : (boxPl v0 v1 pa pc qa qc n).setIfInBounds 2 v = #[v0, v1, v, .slice qa n qc, .slice none 0 0, .int .i64 0] := rfl
theorem tyIS : (3 : TypeId) ≠ 22 := by decide
theorem tyIP : (3 : TypeId) ≠ 56 := by decide
theorem tySP : (22 : TypeId) ≠ 56 := by decide
/-- one place more, its parts still to come -/
theorem PlM.new (h : PlM fb m v0 v1 pa pc qa qc Qi Q W) (hfm : fb < m) (hG : Grew (fun k => ownA pa = some k ∨ ownA qa = some k) W W4) {key : Int}
    (HO1 : W4.ownsRow m 3 1 (.slice pa' (Q.length + 1) pc') (Q.length + 1) (plC Q ++ [.int .i64 key])) (HO2 : W4.ownsRow m 22 1 (.slice qa' (Q.length + 1) qc') (Q.length + 1) (icells Qi ++ [.slice none 0 0])) :
    PlM fb m v0 v1 pa' pc' qa' qc' (Qi ++ [(none, 0, [])]) (Q ++ [(key, [])]) ((W4.setCell ⟨fb, 2, none⟩ (.slice pa' (Q.length + 1) pc')).setCell ⟨fb, 3, none⟩ (.slice qa' (Q.length + 1) qc')) := by
  have hst : ∀ k, k ≠ fb → ((W4.setCell ⟨fb, 2, none⟩ (.slice pa' (Q.length + 1) pc')).setCell ⟨fb, 3, none⟩ (.slice qa' (Q.length + 1) qc')).heap[k]? = W4.heap[k]? := fun k hk => (heap_setCell_other _ _ _ _ hk).trans (heap_setCell_other _ _ _ _ hk)
  have hfb4 : W4.heap[fb]? = some (.cells (boxPl v0 v1 pa pc qa qc Q.length) 61 (0, 0)) := (hG.block fb (Array.getElem?_eq_some_iff.1 h.box).1 (fun e => by
    rcases e with e | e
    · have := own_ty h.pl e; omega
    · have := own_ty h.qs e; omega)).trans h.box
  have e1 : (Q ++ [(key, ([] : List PartL))]).length = Q.length + 1 := by simp
  refine ⟨?_, ?_, ?_, ?_, fun x hx => ?_, fun i j x y g hi hj hij hx hy => ?_⟩
  · rw [e1]
    have h2 := heap_setCell_same W4 fb 2 _ 61 (.slice pa' (Q.length + 1) pc') hfb4
    rw [heap_setCell_same _ fb 3 _ 61 (.slice qa' (Q.length + 1) qc') h2]
    rfl
  · rw [e1]
    have e2 : plC (Q ++ [(key, ([] : List PartL))]) = plC Q ++ [.int .i64 key] := by simp [plC]
    rw [e2]
    exact own_keep HO1 fun k hk => hst k (by have := own_ty HO1 hk; omega)
  · rw [e1, icells_append]
    exact own_keep HO2 fun k hk => hst k (by have := own_ty HO2 hk; omega)
  · rw [bodies_append, h.bod, List.map_append]; rfl
  · rcases List.mem_append.1 hx with hx | hx
    · have ho := h.rows x hx
      refine own_keep ho fun k hk => ?_
      obtain ⟨h1, h2, _⟩ := own_ty ho hk
      refine (hst k (by omega)).trans (hG.block k h2 (fun e => ?_))
      rcases e with e | e
      · exact own_apart h.pl ho tyIP k e hk
      · exact own_apart h.qs ho tySP k e hk
    · obtain rfl := List.mem_singleton.1 hx
      exact World.ownsRow_nil _ _ _ _
  · have hcase : ∀ (i : Nat) x, (Qi ++ [((none, 0, []) : Item PartL)])[i]? = some x → Qi[i]? = some x ∨ x = (none, 0, []) := fun i x hi => by
      rcases Nat.lt_or_ge i Qi.length with hl | hl
      · rw [List.getElem?_append_left hl] at hi; exact .inl hi
      · rw [List.getElem?_append_right hl] at hi
        exact .inr (List.mem_singleton.1 (List.mem_of_getElem? hi))
    rcases hcase i x hi with hi | rfl
    · rcases hcase j y hj with hj | rfl
      · exact h.dist i j x y g hi hj hij hx hy
      · cases hy
    · cases hx
/-- one part more at a place -/
theorem PlM.put (h : PlM fb m v0 v1 pa pc qa qc Qi Q W) (hfm : fb < m) (hmW : m ≤ W.heap.size) {k : Nat} {x : Item PartL} {q : Plc} (hx : Qi[k]? = some x) (hq : Q[k]? = some q) {p : PartL} {W1 : World} {lit : Obj} (hb : Below W.heap.size W W1) {A' : Option Addr} {c' : Nat}
    (HO : W'.ownsRow m 56 4 (.slice A' (x.2.2.length + 1) c') (x.2.2.length + 1) (x.2.2.flatMap partC ++ partC p)) (HG : (W1.alloc lit).grownBy W' (ownA x.1)) (HN : Newer (ownA x.1) (ownA A') (W1.heap.size + 1)) {gq : Nat} (hgq : qa = some ⟨gq, 0, none⟩) :
    PlM fb m v0 v1 pa pc qa qc (Qi.set k (A', c', x.2.2 ++ [p])) (Q.set k (q.1, q.2 ++ [p])) (W'.setCell ⟨gq, k, none⟩ (.slice A' (x.2.2.length + 1) c')) ∧
    Grew (fun j => ownA x.1 = some j ∨ ownA qa = some j) W (W'.setCell ⟨gq, k, none⟩ (.slice A' (x.2.2.length + 1) c')) := by
  have hxm : x ∈ Qi := List.mem_of_getElem? hx
  have hxr := h.rows x hxm
  have hs1 := hb.size
  have hgA : ownA qa = some gq := by rw [hgq]; rfl
  have hgl := own_ty h.qs hgA
  have hbx : x.2.2 = q.2 := by
    have := congrArg (fun l => l[k]?) h.bod
    simp only [bodies, List.getElem?_map, hx, hq, Option.map_some] at this
    injection this
  have hold : ∀ j, j < W.heap.size → ownA x.1 ≠ some j → W'.heap[j]? = W.heap[j]? := fun j hj hn => (HG.block j (by simp; omega) (fun e => hn e.symm)).trans ((Below.heap_alloc _ _ _ (by omega)).trans (hb.block j hj))
  have hst : ∀ j, j ≠ gq → (W'.setCell ⟨gq, k, none⟩ (.slice A' (x.2.2.length + 1) c')).heap[j]? = W'.heap[j]? := fun j hj => heap_setCell_other _ _ _ _ hj
  have hnew : ∀ j, j < W1.heap.size → ownA A' = some j → ownA x.1 = some j := fun j hj e => by
    rcases HN with e2 | ⟨g, e2, hg⟩
    · rw [← e2]; exact e
    · rw [e2] at e; injection e with e; omega
  have hlen : (Q.set k (q.1, q.2 ++ [p])).length = Q.length := by simp
  have hqx : ∀ j, ownA x.1 = some j → ownA qa ≠ some j := fun j h1 h2 => own_apart h.qs hxr tySP j h2 h1
  have hQl := (List.getElem?_eq_some_iff.1 hq).1
  refine ⟨⟨?_, ?_, ?_, ?_, fun y hy => ?_, fun i j y z g hi hj hij hy hz => ?_⟩, ?_⟩
  · rw [hlen]
    exact (hst fb (by omega)).trans ((hold fb (Array.getElem?_eq_some_iff.1 h.box).1 (fun e => by have := own_ty hxr e; omega)).trans h.box)
  · rw [hlen]
    have e2 : plC (Q.set k (q.1, q.2 ++ [p])) = plC Q := by
      unfold plC
      rw [List.map_set]
      apply List.ext_getElem? 
      intro i
      by_cases hi : k = i
      · subst hi
        rw [List.getElem?_set_self (by simpa using hQl), List.getElem?_map, hq]; rfl
      · rw [List.getElem?_set_ne hi]
    rw [e2]
    refine own_keep h.pl fun j hj => ?_
    have h3 := own_ty h.pl hj
    exact (hst j (fun e => own_apart h.pl h.qs tyIS j hj (by rw [e]; exact hgA))).trans (hold j h3.2.1 (fun e => own_apart h.pl hxr tyIP j hj e))
  · rw [hlen]
    have ho : W'.ownsRow m 22 1 (.slice qa Q.length qc) Q.length (icells Qi) := own_keep h.qs fun j hj => hold j (own_ty h.qs hj).2.1 (fun e => hqx j e hj)
    subst hgq
    have h4 := ownsRow_setK ho k (.slice A' (x.2.2.length + 1) c')
    have e3 : icells (Qi.set k (A', c', x.2.2 ++ [p])) = (icells Qi).set k (.slice A' (x.2.2.length + 1) c') := by
      unfold icells
      rw [List.map_set]
      simp [ival]
    rw [e3]; exact h4
  · have e4 : bodies (Qi.set k (A', c', x.2.2 ++ [p])) = (bodies Qi).set k (x.2.2 ++ [p]) := by unfold bodies; rw [List.map_set]
    rw [e4, h.bod, List.map_set, hbx]
  · obtain ⟨i, hi⟩ := List.getElem?_of_mem hy
    by_cases hki : k = i
    · subst hki
      rw [List.getElem?_set_self (List.getElem?_eq_some_iff.1 hx).1] at hi
      injection hi with hi; subst hi
      simp only [List.length_append, List.length_cons, List.length_nil, List.flatMap_append, List.flatMap_cons, List.flatMap_nil, List.append_nil]
      refine own_keep HO fun j hj => hst j (fun e => ?_)
      have h3 := hnew j (by subst e; omega) hj
      exact hqx j h3 (by rw [e]; exact hgA)
    · rw [List.getElem?_set_ne hki] at hi
      have hyr := h.rows y (List.mem_of_getElem? hi)
      refine own_keep hyr fun j hj => ?_
      have h3 := own_ty hyr hj
      exact (hst j (fun e => own_apart h.qs hyr tySP j (by rw [e]; exact hgA) hj)).trans (hold j h3.2.1 (fun e => h.dist k i x y j hx hi hki e hj))
  · have hkl := (List.getElem?_eq_some_iff.1 hx).1
    by_cases hki : k = i
    · subst hki
      rw [List.getElem?_set_self hkl] at hi
      injection hi with hi; subst hi
      rw [List.getElem?_set_ne hij] at hj
      simp only at hy
      have hzr := h.rows z (List.mem_of_getElem? hj)
      have hz3 := own_ty hzr hz
      exact h.dist k j x z g hx hj hij (hnew g (by omega) hy) hz
    · rw [List.getElem?_set_ne hki] at hi
      by_cases hkj : k = j
      · subst hkj
        rw [List.getElem?_set_self hkl] at hj
        injection hj with hj; subst hj
        simp only at hz
        have hyr := h.rows y (List.mem_of_getElem? hi)
        have hy3 := own_ty hyr hy
        exact h.dist i k y x g hi hx hij hy (hnew g (by omega) hz)
      · rw [List.getElem?_set_ne hkj] at hj
        exact h.dist i j y z g hi hj hij hy hz
  · have hxo : (W1.alloc lit).ownsRow m 56 4 (.slice x.1 x.2.2.length x.2.1) x.2.2.length (x.2.2.flatMap partC) := own_keep hxr fun j hj => (Below.heap_alloc _ _ _ (by have := own_ty hxr hj; omega)).trans (hb.block j (own_ty hxr hj).2.1)
    exact (((Grew.of_below hb).alloc lit).grown hxo HG (fun j _ hj => .inl hj)).setCell gq k _ (.inl (.inr hgA))
end
theorem foldP_ok (l : List PartL) : PlcOk (l.foldl addP []) l := by
  have h := plcs_ok l.reverse
  unfold plcs at h
  rw [List.reverse_reverse] at h
  exact ⟨h.keys, fun q hq => ⟨(h.has q hq).1, fun p hp => ⟨List.mem_reverse.1 ((h.has q hq).2 p hp).1, ((h.has q hq).2 p hp).2⟩⟩, fun q hq => by have := h.small q hq; simpa using this, by have := h.len; simpa using this⟩
theorem addP_new {L : List Plc} {p : PartL} (h : ∀ q ∈ L, q.1 ≠ p.1) : addP L p = L ++ [(p.1, [p])] := by
  induction L with
  | nil => rfl
  | cons q L ih =>
    obtain ⟨a, ps⟩ := q
    unfold addP
    rw [if_neg (h (a, ps) (List.mem_cons_self ..)), ih fun r hr => h r (List.mem_cons_of_mem _ hr)]; rfl
theorem addP_old {L : List Plc} {p : PartL} {k : Nat} {q : Plc} (hk : L[k]? = some q) (hq : q.1 = p.1) (hn : ∀ (j : Nat) r, j < k → L[j]? = some r → r.1 ≠ p.1) : addP L p = L.set k (q.1, q.2 ++ [p]) := by
  induction L generalizing k with
  | nil => simp at hk
  | cons r L ih =>
    obtain ⟨a, ps⟩ := r
    unfold addP
    cases k with
    | zero =>
      simp at hk; subst hk
      rw [if_pos hq]; rfl
    | succ k =>
      rw [if_neg (hn 0 (a, ps) (by omega) rfl), ih (by simpa using hk) fun j r hj hr => hn (j + 1) r (by omega) (by simpa using hr)]; rfl
/-- where a key stands -/
theorem idxI_cases (l : List Int) (x : Int) : (∃ k : Nat, idxI l x = k ∧ l[k]? = some x ∧ ∀ (j : Nat) y, j < k → l[j]? = some y → y ≠ x) ∨ (idxI l x = -1 ∧ ∀ y ∈ l, y ≠ x) := by
  by_cases h : ∃ k : Nat, l[k]? = some x
  · have hmin : ∃ k : Nat, l[k]? = some x ∧ ∀ j, j < k → l[j]? ≠ some x := by
      obtain ⟨k, hk⟩ := h
      induction k using Nat.strongRecOn with
      | ind k ih =>
        by_cases h2 : ∃ j, j < k ∧ l[j]? = some x
        · obtain ⟨j, hj, hjx⟩ := h2
          exact ih j hj hjx
        · exact ⟨k, hk, fun j hj e => h2 ⟨j, hj, e⟩⟩
    obtain ⟨k, hk, hn⟩ := hmin
    exact .inl ⟨k, idxI_at hk hn, hk, fun j y hj hy e => hn j hj (by rw [hy, e])⟩
  · have hn : ∀ j : Nat, l[j]? ≠ some x := fun j e => h ⟨j, e⟩
    exact .inr ⟨idxI_none hn, fun y hy e => by
      obtain ⟨j, hj⟩ := List.getElem?_of_mem hy
      exact hn j (by rw [hj, e])⟩
/-- a range over a function whose loop variable is boxed, outside of any fence -/
theorem wp_rangeFuncH {P : Program} {α : Type} {g : Operand} {ps : Array Tmp} {assign body : Code} {Q : Exit → Act → World → Prop} {a : Act} {w : World}
    {gf : Nat} {lb : Array Value} (hg : a.eval g = .func (.func gf) #[] lb) (eg : ∀ args w, (callFunc gf args).run P w = .ok (.enter gf args) w)
    {encs : α → Array Value} {Kp : World → World → Prop} {S Sp : List α → Prop} {N : Nat} (hseq : SeqStopsK Fence.wide 7 P gf lb encs Kp S Sp N w)
    (hKt : ∀ {A B C : World}, Kp A B → Kp B C → Kp A C) (hKb : ∀ (W : World) (l : Nat) (o o' : Obj), w.heap.size ≤ l → W.heap[l]? = some o → o.isCells = false → o.isWalk = false → Kp W (W.putObj l o')) (hps : ∀ x, (encs x).size = ps.size)
    (I : List α → World → Prop) (Ix : Code → List α → World → Prop) (hI : OwnFrom w.heap.size I) (hIx : ∀ c, OwnFrom w.heap.size (Ix c)) (h0 : I [] w) (Ax : α → Act → World → Prop) (hAx : ∀ x a', OwnFrom w.heap.size (fun (_ : Unit) W => Ax x a' W))
    (hassign : ∀ (l : Nat) (pre : List α) (x : α) (W : World) (K : Act → World → Prop), I pre W → (∀ a' W', KeepsFrom w.heap.size W W' → Kp W W' → I pre W' → Ax x a' W' → K a' W') →
      assign.wpIn (Fence.wide.inRound l) 6 P (Exit.then K (fun _ _ _ => False)) { tmps := (ps.zip (encs x)).foldl (fun t (p, v) => t.setIfInBounds p v) a.tmps, defers := [] } W)
    (hbody : ∀ (l : Nat) (pre : List α) (x : α) (a' : Act) (W : World), I pre W → Ax x a' W → pre.length < N → body.wpIn (Fence.wide.inRound l) 6 P (ownPostG w.heap.size Kp I Ix (pre ++ [x]) W) a' W)
    (hdone : ∀ (D : Nat) (xs : List α) (W : World), w.heap.size ≤ D → S xs → I xs W → W.heap[D]? = some (.deferred (some [])) → Q .normal { a with defers := { target := .collected D, args := #[] } :: a.defers } W)
    (hstop : ∀ (D : Nat) (c : Code) (pre : List α) (W : World), w.heap.size ≤ D → Sp pre → Ix c pre W → W.heap[D]? = some (.deferred (some [])) → c.wp P Q { a with defers := { target := .collected D, args := #[] } :: a.defers } W) :
    (Code.rangeFunc g ps assign body).wp P Q a w :=
  (wpIn_wide (n := 8)).1 (wpIn_rangeFunc_ownH (F := Fence.wide) rfl (by omega) hg trivial eg hseq hKt hKb (Below.refl _ _) hps I Ix hI hIx h0 Ax hAx hassign (fun l pre x a' W _ _ h1 h2 h3 => hbody l pre x a' W h1 h2 h3) hdone
    (fun D c pre W h1 h2 h3 h4 => (wpIn_wide (n := 8)).2 (hstop D c pre W h1 h2 h3 h4)))
/-- a range over a function whose loop variable is boxed, outside of any fence -/
theorem wp_rangeFuncB {P : Program} {α : Type} {g : Operand} {ps : Array Tmp} {assign body : Code} {Q : Exit → Act → World → Prop} {a : Act} {w : World}
    {gf : Nat} {lb : Array Value} (hg : a.eval g = .func (.func gf) #[] lb) (eg : ∀ args w, (callFunc gf args).run P w = .ok (.enter gf args) w)
    {encs : α → Array Value} {Kp : World → World → Prop} {S Sp : List α → Prop} {N : Nat} (hseq : SeqStopsK Fence.wide 7 P gf lb encs Kp S Sp N w)
    (hKt : ∀ {A B C : World}, Kp A B → Kp B C → Kp A C) (hKb : ∀ (W : World) (l : Nat) (o o' : Obj), w.heap.size ≤ l → W.heap[l]? = some o → o.isCells = false → o.isWalk = false → Kp W (W.putObj l o')) (hps : ∀ x, (encs x).size = ps.size)
    (I : List α → World → Prop) (Ix : Code → List α → World → Prop) (hI : OwnFrom w.heap.size I) (hIx : ∀ c, OwnFrom w.heap.size (Ix c)) (h0 : I [] w) (act : α → Nat → Act) (Pa : α → Nat → World → Prop) (hPa : ∀ x b, OwnFrom w.heap.size (fun (_ : Unit) W => Pa x b W))
    (hassign : ∀ (l : Nat) (pre : List α) (x : α) (W : World) (K : Act → World → Prop), I pre W → (∀ b W', KeepsFrom w.heap.size W W' → Kp W W' → I pre W' → Pa x b W' → K (act x b) W') →
      assign.wpIn (Fence.wide.inRound l) 6 P (Exit.then K (fun _ _ _ => False)) { tmps := (ps.zip (encs x)).foldl (fun t (p, v) => t.setIfInBounds p v) a.tmps, defers := [] } W)
    (hbody : ∀ (l : Nat) (pre : List α) (x : α) (b : Nat) (W : World), I pre W → Pa x b W → pre.length < N → body.wpIn (Fence.wide.inRound l) 6 P (ownPostG w.heap.size Kp I Ix (pre ++ [x]) W) (act x b) W)
    (hdone : ∀ (D : Nat) (xs : List α) (W : World), w.heap.size ≤ D → S xs → I xs W → W.heap[D]? = some (.deferred (some [])) → Q .normal { a with defers := { target := .collected D, args := #[] } :: a.defers } W)
    (hstop : ∀ (D : Nat) (c : Code) (pre : List α) (W : World), w.heap.size ≤ D → Sp pre → Ix c pre W → W.heap[D]? = some (.deferred (some [])) → c.wp P Q { a with defers := { target := .collected D, args := #[] } :: a.defers } W) :
    (Code.rangeFunc g ps assign body).wp P Q a w :=
  wp_rangeFuncH hg eg hseq hKt hKb hps I Ix hI hIx h0 (fun x a' W => ∃ b, a' = act x b ∧ Pa x b W)
    (fun x a' s X Y row h hg hr => by obtain ⟨b, e, h⟩ := h; exact ⟨b, e, hPa x b () X Y row h hg hr⟩)
    (fun l pre x W K hI hK => hassign l pre x W K hI fun b W' h1 h2 h3 h4 => hK _ W' h1 h2 h3 ⟨b, rfl, h4⟩)
    (fun l pre x a' W h1 h2 h3 => by obtain ⟨b, rfl, h2⟩ := h2; exact hbody l pre x b W h1 h2 h3) hdone hstop
/-- a loop's relation: the places of the parts so far -/
def PlI (fb m : Nat) (v0 v1 : Value) (w8 : World) (l : List PartL) (W : World) : Prop := ∃ pa pc qa qc Qi, PlM fb m v0 v1 pa pc qa qc Qi (l.foldl addP []) W ∧ Only fb none w8 W
theorem PlI.own {β : Type} {fb m B : Nat} {v0 v1 : Value} {w8 : World} (f : β → List PartL) (hB : w8.heap.size ≤ B) : OwnFrom B (fun s W => PlI fb m v0 v1 w8 (f s) W) := by
  rintro s X Y row ⟨pa, pc, qa, qc, Qi, hP, hO⟩ hg hr
  exact ⟨pa, pc, qa, qc, Qi, hP.turn hg (fun r e => (hr r e).2), ownFrom_only (β := Unit) hB () X Y row hO hg hr⟩
/-- what is known of a round's own part -/
structure PlA (fb m : Nat) (v0 v1 : Value) (b : Nat) (p : PartL) (W : World) : Prop where
  lo : m ≤ b
  box : W.heap[b]? = some (.cells (partC p).toArray 56 (0, 0))
  free : ∃ pa pc qa qc Qi Q, PlM fb m v0 v1 pa pc qa qc Qi Q W ∧ PlFree pa qa Qi b
theorem PlA.turn {fb m : Nat} {v0 v1 : Value} {b : Nat} {p : PartL} {W W' : World} {row : Option Nat} (h : PlA fb m v0 v1 b p W) (hg : W.grownBy W' row) (hr : ∀ r, row = some r → ∃ o : Obj, W.heap[r]? = some o ∧ o.isCells = false) : PlA fb m v0 v1 b p W' := by
  obtain ⟨pa, pc, qa, qc, Qi, Q, hP, hF⟩ := h.free
  exact ⟨h.lo, (hg.block b (Array.getElem?_eq_some_iff.1 h.box).1 (fun e => by
    obtain ⟨o, ho, hc⟩ := hr b e.symm
    rw [h.box] at ho; cases ho; cases hc)).trans h.box, pa, pc, qa, qc, Qi, Q, hP.turn hg hr, hF⟩
theorem PlA.own {fb m B b : Nat} {v0 v1 : Value} {p : PartL} : OwnFrom B (fun (_ : Unit) W => PlA fb m v0 v1 b p W) := fun s X Y row h hg hr => h.turn hg fun r e => (hr r e).2
theorem Grew.cell {R : Nat → Prop} {W W' : World} (h : Grew R W W') {p : Addr} {v : Value} (hv : W.cell? p = some v) (hn : ¬ R p.block) : W'.cell? p = some v := by
  have hl := World.block_lt_of_cell? W p hv
  have hb := h.block p.block hl hn
  unfold World.cell? at hv ⊢
  rw [hb]; exact hv
theorem Grew.mono {R R' : Nat → Prop} {W W' : World} (h : Grew R W W') (hR : ∀ k, k < W.heap.size → R k → R' k) : Grew R' W W' := (Grew.refl R' W).trans h hR
/-- where the orders of two new literals and the first append meet -/
structure PlY (m : Nat) (W : World) (pa qa : Option Addr) (qc n : Nat) (xs ys : List Value) (lb2 : Nat) (A9 : Option Addr) (c9 : Nat) (V : World) : Prop where
  grew : Grew (fun k => ownA pa = some k) W V
  pl : V.ownsRow m 3 1 (.slice A9 (n + 1) c9) (n + 1) xs
  qs : V.ownsRow m 22 1 (.slice qa n qc) n ys
  lit : V.heap[lb2]? = some (.cells #[.slice none 0 0] 22 (0, 0))
theorem meetY {P : Program} {ops : Array Oper} {Q : Exit → Act → World → Prop} {md : Region.Mode} {S S2 : World → Prop} {z : Nat} {n0 : Nat} {L0 : Array Bool} {a0 : Act} {w0 : World} (R : Nat → Nat → Option Addr → Nat → World → Prop) (fuel : Nat) (L : Array Bool) (st : Nat → Nat → Option Addr → Nat → Act)
    (hrest : ∀ lb1 lb2 A c W, R lb1 lb2 A c W → wpAnyY P md ops Q S S2 z fuel L (st lb1 lb2 A c) W)
    (h : (∀ (listed : Array Bool) (n : Nat), listed = L → n = fuel → ∀ lb1 lb2 A c W, R lb1 lb2 A c W → wpAnyY P md ops Q S S2 z n listed (st lb1 lb2 A c) W) → wpAnyY P md ops Q S S2 z n0 L0 a0 w0) : wpAnyY P md ops Q S S2 z n0 L0 a0 w0 := h fun listed n e e2 lb1 lb2 A c W hR => by subst e; subst e2; exact hrest lb1 lb2 A c W hR
theorem dsN_vals (ps : List PartL) : ∀ (n : Nat) (xs : List (PlP ps)), xs.map (·.1.1) = dsN n → n ≤ ps.length → xs.map (·.1.2) = (ps.take n).reverse
  | 0, xs, h, _ => by
    have : xs = [] := by simpa [dsN] using h
    subst this; simp
  | n + 1, [], h, _ => by simp [dsN] at h
  | n + 1, x :: xs, h, hn => by
    simp only [dsN, List.map_cons, List.cons.injEq] at h
    have h2 := dsN_vals ps n xs h.2 (by omega)
    have hx := x.2
    rw [h.1] at hx
    rw [List.map_cons, h2, take_snoc? hx, List.reverse_append]; rfl
theorem infoIx : (Try.prog.info? 3).map (fun i => (i.zero, i.size, i.bytes)) = some (some (.int .i64 0), 1, 8) := by kernel_rfl
theorem infoPs : (Try.prog.info? 22).map (fun i => (i.zero, i.size, i.bytes)) = some (some (.slice none 0 0), 1, 24) := by kernel_rfl
theorem infoPt : (Try.prog.info? 56).map (fun i => (i.zero, i.size, i.bytes)) = some (some (.agg #[.int .i64 0, .int .i64 0, .int .i64 0, .int .i64 0]), 4, 32) := by kernel_rfl
section
variable {fb m : Nat} {v0 v1 : Value} {pa qa pa' qa' : Option Addr} {pc qc pc' qc' : Nat} {Qi : List (Item PartL)} {Q : List Plc} {W W4 W' : World}
/-- where the parts of one place lie -/
theorem PlM.site (h : PlM fb m v0 v1 pa pc qa qc Qi Q W) {k : Nat} {q : Plc} (hq : Q[k]? = some q) : ∃ gq xa xc xl, qa = some ⟨gq, 0, none⟩ ∧ Qi[k]? = some (xa, xc, xl) ∧ xl = q.2 ∧ W.cell? ⟨gq, k, none⟩ = some (.slice xa xl.length xc) ∧ W.frozen? ⟨gq, k, none⟩ = false ∧
    (m ≤ gq ∧ gq < W.heap.size) ∧ W.ownsRow m 56 4 (.slice xa xl.length xc) xl.length (xl.flatMap partC) ∧ ∀ j, ownA xa = some j → j ≠ gq := by
  have hQl := (List.getElem?_eq_some_iff.1 hq).1
  have hli := h.lenI
  obtain ⟨⟨xa, xc, xl⟩, hx⟩ : ∃ x, Qi[k]? = some x := ⟨_, List.getElem?_eq_getElem (by omega)⟩
  have hxr := h.rows _ (List.mem_of_getElem? hx)
  have hxq : xl = q.2 := by
    have := congrArg (fun l => l[k]?) h.bod
    simp only [bodies, List.getElem?_map, hx, hq, Option.map_some] at this
    injection this
  have hqs := h.qs
  obtain ⟨gq, hA⟩ : ∃ gq, qa = some ⟨gq, 0, none⟩ := by
    rcases h.qs.2 with ⟨e, _⟩ | ⟨g', cap, cur, e, _⟩
    · injection e with e1 e2; omega
    · injection e with e1; exact ⟨g', e1⟩
  subst hA
  have hlt := own_ty hqs (k := gq) rfl
  obtain ⟨hl1, hl2, cur, hcur⟩ := hlt
  refine ⟨gq, xa, xc, xl, rfl, hx, hxq, ?_, by simp [World.frozen?, hcur], ⟨hl1, hl2⟩, hxr, fun j hj e => own_apart hqs hxr tySP gq rfl (by rw [← e]; exact hj)⟩
  have h1 := hqs.cells (g := gq) rfl k _ (icells_at hx)
  have e0 : (⟨gq, 0, none⟩ : Addr).add k = ⟨gq, 0 + k, none⟩ := by unfold Addr.add; split <;> simp_all
  rw [e0, Nat.zero_add] at h1
  exact h1
theorem PlY.of (h : PlM fb m v0 v1 pa pc qa qc Qi Q W) {n lb2 c9 : Nat} (hn : Q.length = n) {A9 : Option Addr} {xs : List Value} {V : World} (hg : Grew (fun k => ownA pa = some k) W V) (hpl : V.ownsRow m 3 1 (.slice A9 (n + 1) c9) (n + 1) xs)
    (hlit : V.heap[lb2]? = some (.cells #[.slice none 0 0] 22 (0, 0))) : PlY m W pa qa qc n xs (icells Qi) lb2 A9 c9 V := by
  subst hn
  exact ⟨hg, hpl, own_keep h.qs fun k hk => hg.block k (own_ty h.qs hk).2.1 (fun e => own_apart h.pl h.qs tyIS k e hk), hlit⟩
/-- the finder's cells and what is none of its rows stay -/
theorem PlM.still (h : PlM fb m v0 v1 pa pc qa qc Qi Q W) (hfm : fb + 1 < m) {bx : Nat} (hF : PlFree pa qa Qi bx) {V : World} (hg : Grew (fun k => ownA pa = some k ∨ ownA qa = some k) W V) :
    (∀ k, k < m → k < W.heap.size → V.heap[k]? = W.heap[k]?) ∧ (bx < W.heap.size → V.heap[bx]? = W.heap[bx]?) :=
  ⟨fun k hk hl => hg.block k hl (fun e => by
    rcases e with e | e
    · have := (own_ty h.pl e).1; omega
    · have := (own_ty h.qs e).1; omega), fun hl => hg.block bx hl (fun e => by
    rcases e with e | e
    · exact hF.1 e
    · exact hF.2.1 e)⟩
end
end Go.Proofs.Ytpmhdjiacgckjaa
end
