/- Words for the finder that box.Boxes has put together: the most that its places come to, a block of numbers on its way. No function of the program in sight. Condition: none. -/
import Derived.Test.YtpmhdjiacgckjaaM17
import Derived.Test.YtpmhdjiacgckjaaM18
import Derived.Test.YtpmhdjiacgckjaaM20
import Derived.Deep.OwnRows
section
namespace Go.Proofs.Ytpmhdjiacgckjaa
open Go.RowKit Go.Shelf
set_option linter.unusedVariables false
set_option linter.unusedSimpArgs false
def cntP (L : List Plc) : Nat := (L.map fun q => q.2.length).sum
theorem cntP_add (L : List Plc) (p : PartL) : cntP (addP L p) = cntP L + 1 := by
  induction L with
  | nil => rfl
  | cons q L ih =>
    obtain ⟨a, ps⟩ := q
    unfold addP
    by_cases h : a = p.1
    · rw [if_pos h]; simp [cntP]; omega
    · rw [if_neg h]; simp only [cntP, List.map_cons, List.sum_cons] at ih ⊢; omega
theorem cntP_fold (l : List PartL) (L : List Plc) : cntP (l.foldl addP L) = cntP L + l.length := by
  induction l generalizing L with
  | nil => rfl
  | cons p l ih => rw [List.foldl_cons, ih, cntP_add, List.length_cons]; omega
theorem cntP_plcs (ps : List PartL) : cntP (plcs ps) = ps.length := by
  unfold plcs
  rw [cntP_fold, List.length_reverse]; simp [cntP]
theorem topP_rep {p : PartL} (hb : bitsB p.2.1 p.2.2.1 p.2.2.2 = true) (g : List Sp) : Rep (plL (ImgS p.2.1 p.2.2.1 p.2.2.2 g)) (ImgS p.2.1 p.2.2.1 p.2.2.2 g) := plL_rep (rep_all _ fun v hv => by
  obtain ⟨_, y, _, _, _, rfl⟩ := hv
  have := pval_bd hb y; omega)
theorem topP_bd {p : PartL} (hb : bitsB p.2.1 p.2.2.1 p.2.2.2 = true) (g : List Sp) : 0 ≤ topP p g ∧ topP p g ≤ 67108864 := by
  have hr := topP_rep hb g
  unfold topP lastI
  generalize plL (ImgS p.2.1 p.2.2.1 p.2.2.2 g) = r at hr ⊢
  rcases hr.1.cnt_pos with rfl | hpos
  · simp [nthS, optD]
  · obtain ⟨x, hx, hin⟩ := nthS_some hr.1 (i := cnt r - 1) (by omega) (by omega)
    rw [hx]
    obtain ⟨_, y, _, _, _, rfl⟩ := (hr.2 x).1 hin
    exact pval_bd hb y
theorem sumT_bd {l : List PartL} (hb : ∀ p ∈ l, bitsB p.2.1 p.2.2.1 p.2.2.2 = true) (g : List Sp) : 0 ≤ (l.map fun p => topP p g).sum ∧ (l.map fun p => topP p g).sum ≤ 67108864 * l.length := by
  induction l with
  | nil => simp
  | cons p l ih =>
    have h1 := topP_bd (hb p (List.mem_cons_self ..)) g
    have h2 := ih fun q hq => hb q (List.mem_cons_of_mem _ hq)
    simp only [List.map_cons, List.sum_cons, List.length_cons]; omega
theorem topS_bd {P : List Plc} {G : List (List Sp)} (hb : ∀ q ∈ P, ∀ p ∈ q.2, bitsB p.2.1 p.2.2.1 p.2.2.2 = true) : 0 ≤ topS (P.map (lvOf G)) ∧ topS (P.map (lvOf G)) ≤ 67108864 * cntP P := by
  induction P with
  | nil => simp [topS, cntP]
  | cons q P ih =>
    have h1 := sumT_bd (hb q (List.mem_cons_self ..)) (G.getD q.1.toNat [])
    have h2 := ih fun r hr => hb r (List.mem_cons_of_mem _ hr)
    have e : (lvOf G q).top = (q.2.map fun p => topP p (G.getD q.1.toNat [])).sum := rfl
    simp only [List.map_cons, topS, cntP, List.sum_cons] at h2 ⊢
    rw [e]; omega
theorem cntP_drop (P : List Plc) (k : Nat) : cntP (P.drop k) ≤ cntP P := by
  induction P generalizing k with
  | nil => simp
  | cons q P ih =>
    cases k with
    | zero => simp
    | succ k => have := ih k; simp only [List.drop_succ_cons, cntP, List.map_cons, List.sum_cons] at this ⊢; omega
/-- what a right term's parts are -/
structure PtsOk (ps : List PartL) (G : List (List Sp)) : Prop where
  few : ps.length ≤ 4
  pts : ∀ p ∈ ps, 0 ≤ p.1 ∧ p.1.toNat < G.length ∧ bitsB p.2.1 p.2.2.1 p.2.2.2 = true
  gs : ∀ s ∈ G, Plain s ∧ s ≠ [] ∧ ∀ x, InS s x → 0 ≤ x ∧ x ≤ 1114111
theorem PtsOk.q {ps : List PartL} {G : List (List Sp)} (h : PtsOk ps G) {q : Plc} (hq : q ∈ plcs ps) : 0 ≤ q.1 ∧ q.1.toNat < G.length ∧ ∀ p ∈ q.2, bitsB p.2.1 p.2.2.1 p.2.2.2 = true := by
  obtain ⟨h1, h2⟩ := (plcs_ok ps).has q hq
  obtain ⟨p, hp⟩ := List.exists_mem_of_ne_nil _ h1
  obtain ⟨h3, h4⟩ := h2 p hp
  have h5 := h.pts p h3
  rw [h4] at h5
  exact ⟨h5.1, h5.2.1, fun r hr => (h.pts r (h2 r hr).1).2.2⟩
theorem PtsOk.top {ps : List PartL} {G : List (List Sp)} (h : PtsOk ps G) (k : Nat) : 0 ≤ topS (((plcs ps).map (lvOf G)).drop k) ∧ topS (((plcs ps).map (lvOf G)).drop k) ≤ 268435456 := by
  rw [← List.map_drop]
  have h1 := topS_bd (P := (plcs ps).drop k) (G := G) fun q hq => (h.q (List.mem_of_mem_drop hq)).2.2
  have h2 := cntP_drop (plcs ps) k
  rw [cntP_plcs] at h2
  have := h.few
  omega
theorem getD_mem {α : Type} {l : List α} {d : α} {i : Nat} (h : i < l.length) : l.getD i d ∈ l ∧ l[i]? = some (l.getD i d) := by
  rw [List.getD_eq_getElem?_getD, List.getElem?_eq_getElem h]
  exact ⟨List.getElem_mem _, rfl⟩
theorem item_of_body {α : Type} {L : List (Item α)} {i : Nat} {s : List α} (h : (bodies L)[i]? = some s) : ∃ a c, L[i]? = some (a, c, s) := by
  unfold bodies at h
  rw [List.getElem?_map] at h
  rcases hl : L[i]? with _ | ⟨a, c, t⟩
  · rw [hl] at h; cases h
  · rw [hl] at h; injection h with h; simp only at h; exact ⟨a, c, by rw [h]⟩
theorem fdLv_of {f : FdI} {ps : List PartL} {G : List (List Sp)} (hG : bodies f.gs = G) (hpl : f.pl = (plcs ps).map (·.1)) (hqs : bodies f.qs = (plcs ps).map (·.2))
    (hms : f.ms = (List.range ((plcs ps).length + 1)).map fun j => topS (((plcs ps).map (lvOf G)).drop j)) (h : PtsOk ps G) : FdLv f ((plcs ps).map (lvOf G)) := by
  have hat : ∀ q ∈ plcs ps, (G.getD q.1.toNat [] ∈ G ∧ G[q.1.toNat]? = some (G.getD q.1.toNat [])) := fun q hq => getD_mem (h.q hq).2.1
  refine ⟨by rw [hpl]; simp, fun k l hl => ?_, fun k hk => ?_, fun l hl => ?_, fun l hl x hx => ?_, ?_⟩
  · rw [List.getElem?_map] at hl
    rcases hq : (plcs ps)[k]? with _ | q
    · rw [hq] at hl; cases hl
    · rw [hq] at hl; injection hl with hl; subst hl
      have hqm := List.mem_of_getElem? hq
      obtain ⟨h0, h1, h2⟩ := h.q hqm
      obtain ⟨ga, gc, hga⟩ := item_of_body (L := f.gs) (i := q.1.toNat) (s := G.getD q.1.toNat []) (by rw [hG]; exact (hat q hqm).2)
      obtain ⟨qa, qc, hqa⟩ := item_of_body (L := f.qs) (i := k) (s := q.2) (by rw [hqs, List.getElem?_map, hq]; rfl)
      refine ⟨q.1.toNat, ga, gc, qa, qc, q.2, ?_, hga, hqa, ((plcs_ok ps).has q hqm).1, ?_, h2, rfl, rfl⟩
      · rw [hpl, List.getElem?_map, hq]; simp; omega
      · have := (plcs_ok ps).small q hqm; have := h.few; omega
  · rw [hms, List.getElem?_map, List.getElem?_range (by rw [List.length_map] at hk; omega)]; rfl
  · obtain ⟨q, hq, rfl⟩ := List.mem_map.1 hl
    obtain ⟨h1, h2, h3⟩ := h.gs _ (hat q hq).1
    exact lvOf_ok (h.q hq).2.2 h1 h2 fun x hx => by have := h3 x hx; omega
  · obtain ⟨q, hq, rfl⟩ := List.mem_map.1 hl
    have := (h.gs _ (hat q hq).1).2.2 x hx
    omega
  · have := (h.top 0).2
    rw [List.drop_zero] at this; omega
theorem fdOk_of {f : FdI} {ps : List PartL} {G : List (List Sp)} (hG : bodies f.gs = G) (hpl : f.pl = (plcs ps).map (·.1)) (hqs : bodies f.qs = (plcs ps).map (·.2))
    (hms : f.ms.length = (plcs ps).length + 1) (h : PtsOk ps G) (h4 : f.gs.length ≤ 1048576) (hc : f.pl.length ≤ f.pc) (hm : f.pc ≤ 9223372036854775807) : FdOk f := by
  have hl := (plcs_ok ps).len
  have hf := h.few
  have hgl : f.gs.length = G.length := by rw [← hG, bodies_length]
  have hql : f.qs.length = (plcs ps).length := by have := congrArg List.length hqs; rwa [bodies_length, List.length_map] at this
  have hpn : f.pl.length = (plcs ps).length := by rw [hpl, List.length_map]
  refine ⟨fun k x hx => ?_, by omega, by omega, hc, by omega, h4, hm⟩
  rw [hpl, List.getElem?_map] at hx
  rcases hq : (plcs ps)[k]? with _ | q
  · rw [hq] at hx; cases hx
  · rw [hq] at hx; injection hx with hx; subst hx
    have := h.q (List.mem_of_getElem? hq)
    exact ⟨this.1, by rw [hgl]; exact this.2.1⟩
/-- a block of numbers -/
def MsB (mb n : Nat) (f : Nat → Int) (W : World) : Prop := W.heap[mb]? = some (.cells ((List.range (n + 1)).map fun j => Value.int .i64 (f j)).toArray 3 (0, 0))
section
variable {mb n : Nat} {f g : Nat → Int} {W W' : World}
theorem MsB.congr (h : MsB mb n f W) (hf : ∀ j, j ≤ n → f j = g j) : MsB mb n g W := by
  have e : ((List.range (n + 1)).map fun j => Value.int .i64 (f j)) = (List.range (n + 1)).map fun j => Value.int .i64 (g j) := List.map_congr_left fun j hj => by rw [hf j (by have := List.mem_range.1 hj; omega)]
  unfold MsB at h ⊢
  rw [← e]; exact h
theorem MsB.cell (h : MsB mb n f W) {j : Nat} (hj : j ≤ n) : W.cell? ⟨mb, j, none⟩ = some (.int .i64 (f j)) := by
  unfold MsB at h
  simp only [World.cell?, h]
  simp [List.getElem?_range (show j < n + 1 by omega)]
theorem MsB.frozen (h : MsB mb n f W) (j : Nat) : W.frozen? ⟨mb, j, none⟩ = false := by
  unfold MsB at h
  simp [World.frozen?, h]
theorem MsB.set (h : MsB mb n f W) {k : Nat} (v : Int) : MsB mb n (fun j => if j = k then v else f j) (W.setCell ⟨mb, k, none⟩ (.int .i64 v)) := by
  unfold MsB at h ⊢
  rw [heap_setCell_same W mb k _ _ _ h]
  congr 2
  apply Array.ext'
  simp only [List.setIfInBounds_toArray]
  apply List.ext_getElem?
  intro i
  by_cases hi : k = i
  · subst hi
    by_cases hl : k < n + 1
    · rw [List.getElem?_set_self (by simpa using hl)]; simp [List.getElem?_range hl]
    · rw [List.getElem?_eq_none (by simp; omega), List.getElem?_eq_none (by simp; omega)]
  · rw [List.getElem?_set_ne hi]
    simp only [List.getElem?_map]
    rcases hr : (List.range (n + 1))[i]? with _ | j
    · rfl
    · obtain ⟨hl, he⟩ := List.getElem?_eq_some_iff.1 hr
      rw [List.getElem_range] at he
      subst he
      simp only [Option.map_some]
      rw [if_neg (fun e => hi e.symm)]
theorem MsB.keep (h : MsB mb n f W) (hk : W'.heap[mb]? = W.heap[mb]?) : MsB mb n f W' := hk.trans h
theorem MsB.made (W : World) : MsB W.heap.size n (fun _ => 0) (W.alloc (.cells (madeCells #[.int .i64 0] (n + 1)) 3)) := by
  have h := heap_alloc_new W (.cells (madeCells #[.int .i64 0] (n + 1)) 3)
  unfold MsB
  rw [h]
  congr 2
  apply Array.ext'
  rw [toList_madeCells_one, List.map_const']
  simp
theorem MsB.ints (h : MsB mb n f W) (hn : n ≤ 1048576) (hf : ∀ j, j ≤ n → I64 (f j)) : IntsAt (some ⟨mb, 0, none⟩) ((List.range (n + 1)).map f) W := by
  refine ⟨⟨by rw [List.flatMap_map, ← List.map_eq_flatMap, List.length_map, List.length_map]; simp, fun _ => ⟨mb, 0, rfl, fun j u hu => ?_⟩⟩, fun x hx => ?_, by simp; omega⟩
  · have e : ((List.range (n + 1)).map f).flatMap (fun x => [Value.int .i64 x]) = (List.range (n + 1)).map fun j => Value.int .i64 (f j) := by rw [List.flatMap_map, ← List.map_eq_flatMap]
    rw [e] at hu
    rw [Nat.zero_add]
    rcases hr : (List.range (n + 1))[j]? with _ | i
    · rw [List.getElem?_map, hr] at hu; cases hu
    · obtain ⟨hl, he⟩ := List.getElem?_eq_some_iff.1 hr
      rw [List.getElem_range] at he
      subst he
      rw [List.getElem?_map, hr] at hu
      injection hu with hu
      rw [← hu]
      exact h.cell (by rw [List.length_range] at hl; omega)
  · obtain ⟨j, hj, rfl⟩ := List.mem_map.1 hx
    exact hf j (by have := List.mem_range.1 hj; omega)
end
theorem topS_at {P : List Plc} {G : List (List Sp)} {k : Nat} {q : Plc} (hq : P[k]? = some q) : topS ((P.map (lvOf G)).drop k) = topS ((P.map (lvOf G)).drop (k + 1)) + (q.2.map fun p => topP p (G.getD q.1.toNat [])).sum := by
  have hl := (List.getElem?_eq_some_iff.1 hq).1
  have e : (P.map (lvOf G)).drop k = lvOf G q :: (P.map (lvOf G)).drop (k + 1) := by
    rw [List.drop_eq_getElem_cons (by simpa using hl)]
    congr 1
    rw [List.getElem_map, (List.getElem?_eq_some_iff.1 hq).2]
  rw [e]
  show (lvOf G q).top + _ = _
  have : (lvOf G q).top = (q.2.map fun p => topP p (G.getD q.1.toNat [])).sum := rfl
  rw [this]; omega
/-- the most that the places come to, as far as they are reckoned -/
noncomputable def msF (lvs : List Lv) (K : Nat) (j : Nat) : Int := if j < K then 0 else topS (lvs.drop j)
theorem IntsAt.cell {pb po : Nat} {l : List Int} {V : World} (h : IntsAt (some ⟨pb, po, none⟩) l V) {k : Nat} {x : Int} (hx : l[k]? = some x) : V.cell? ⟨pb, po + k, none⟩ = some (.int .i64 x) := by
  obtain ⟨b, off, y, hA, hy, _, hc⟩ := h.at_ (j := k) (List.getElem?_eq_some_iff.1 hx).1
  injection hA with hA; injection hA with e1 e2
  subst e1; subst e2
  rw [hx] at hy; injection hy with hy; subst hy
  exact hc
theorem Items.cell {α : Type} {R : Option Addr → List α → World → Prop} {qb qo n : Nat} {L : List (Item α)} {V : World} (h : Items R (some ⟨qb, qo, none⟩) n L V) {k : Nat} {a : Option Addr} {c : Nat} {l : List α} (hx : L[k]? = some (a, c, l)) : V.cell? ⟨qb, qo + k, none⟩ = some (.slice a l.length c) ∧ R a l V := by
  obtain ⟨b, off, a', c', l', hA, hy, hc, hR⟩ := h.at_ (j := k) (by have := (List.getElem?_eq_some_iff.1 hx).1; rw [← h.len]; exact this)
  injection hA with hA; injection hA with e1 e2
  subst e1; subst e2
  rw [hx] at hy; injection hy with hy; injection hy with e3 e4; injection e4 with e4 e5
  subst e3; subst e4; subst e5
  exact ⟨hc, hR⟩
theorem infoIy : (Try.prog.info? 3).map (fun i => (i.zero, i.size, i.bytes)) = some (some (.int .i64 0), 1, 8) := by kernel_rfl
theorem boxOf_len (G : List (List Sp)) : ∀ (L : List Plc) (r : Row), (boxOf G L r).length = G.length := by
  intro L
  induction L generalizing G with
  | nil => intro r; cases r <;> rfl
  | cons q L ih =>
    intro r
    cases r with
    | nil => rfl
    | cons s r => show (boxOf (G.set q.1.toNat s) L r).length = _; rw [ih, List.length_set]
theorem boxOf_snoc : ∀ (k : Nat) (L : List Plc) (r : Row) (G : List (List Sp)) (q : Plc) (s : List Sp), L[k]? = some q → r[k]? = some s → boxOf G (L.take (k + 1)) (r.take (k + 1)) = (boxOf G (L.take k) (r.take k)).set q.1.toNat s
  | 0, q' :: L, s' :: r, G, q, s, hq, hs => by
    simp at hq hs; subst hq; subst hs
    cases L <;> cases r <;> simp [boxOf]
  | k + 1, q' :: L, s' :: r, G, q, s, hq, hs => by
    simp only [List.take_succ_cons]
    show boxOf (G.set q'.1.toNat s') (L.take (k + 1)) (r.take (k + 1)) = (boxOf (G.set q'.1.toNat s') (L.take k) (r.take k)).set q.1.toNat s
    exact boxOf_snoc k L r _ q s (by simpa using hq) (by simpa using hs)
  | _, [], _, _, _, _, hq, _ => by simp at hq
  | _, _ :: _, [], _, _, _, _, hs => by simp at hs
theorem fill_set {G : List (List Sp)} {i : Nat} {s : List Sp} (h : G[i]? = some s) : (G.take i ++ List.replicate (G.length - i) []).set i s = G.take (i + 1) ++ List.replicate (G.length - (i + 1)) [] := by
  have hl := (List.getElem?_eq_some_iff.1 h).1
  have h1 : (G.take i).length = i := by rw [List.length_take]; omega
  rw [List.set_append_right _ _ (by omega), h1, Nat.sub_self, take_snoc? h]
  obtain ⟨n, hn⟩ : ∃ n, G.length - i = n + 1 := ⟨G.length - i - 1, by omega⟩
  rw [hn, List.replicate_succ, List.set_cons_zero, show G.length - (i + 1) = n by omega]
  simp
theorem own_cap {W : World} {m sz n c : Nat} {et : TypeId} {A : Option Addr} {xs : List Value} (h : W.ownsRow m et sz (.slice A n c) n xs) : n ≤ c ∧ c ≤ 9223372036854775807 := by
  rcases h.2 with ⟨e, hn⟩ | ⟨g, cap, cur, e, _, _, hc, hm, _⟩
  · injection e with _ e2 e3; omega
  · injection e with _ e2 e3; subst e3; unfold maxLen at hm; omega
theorem own_dep {W : World} {m c : Nat} {A : Option Addr} {r : List Sp} (h : W.ownsRow m 52 2 (.slice A r.length c) r.length (spanCells r)) (hp : Plain r) : Dep (fun k => m ≤ k) W (Lst A r) := fun V hV =>
  (hp.lst (Sl.of_own (own_keep h (w' := V) fun k hk => hV k (own_ty h hk).1 (own_ty h hk).2.1))) V (Below.refl _ _)
/-- a row of lists on its way, in a block of its own -/
structure RwB (bb base : Nat) (B : List (Item Sp)) (V : World) : Prop where
  blk : V.heap[bb]? = some (.cells (icells B).toArray 26 (0, 0))
  sets : ∀ x ∈ B, Dep (fun k => base ≤ k ∧ k ≠ bb) V (Lst x.1 x.2.2)
section
variable {bb base : Nat} {B : List (Item Sp)} {V V2 : World}
theorem lst_nil (V : World) : Lst none [] V := ⟨Sl.nil_ _ _ _, fun p hp => (by cases hp), by simp⟩
theorem RwB.start (V : World) (n : Nat) : RwB V.heap.size V.heap.size (List.replicate n (none, 0, [])) (V.alloc (.cells (madeCells #[.slice none 0 0] n) 26)) := by
  refine ⟨?_, fun x hx => ?_⟩
  · rw [heap_alloc_new V _]
    congr 2
    apply Array.ext'
    rw [toList_madeCells_one]
    simp [icells, ival]
  · obtain ⟨_, rfl⟩ := List.mem_replicate.1 hx
    exact fun U _ => lst_nil U
theorem RwB.below (h : RwB bb base B V) (hb : Below V.heap.size V V2) : RwB bb base B V2 :=
  ⟨(hb.block bb (Array.getElem?_eq_some_iff.1 h.blk).1).trans h.blk, fun x hx => (h.sets x hx).step (fun k _ hl => hb.block k hl) hb.size (fun k hp _ => hp)⟩
theorem RwB.set (h : RwB bb base B V) (hbs : base ≤ V.heap.size) (hb : Below V.heap.size V V2) {i : Nat} {A : Option Addr} {c : Nat} {s : List Sp} (hs : Dep (fun k => V.heap.size ≤ k) V2 (Lst A s)) : RwB bb base (B.set i (A, c, s)) (V2.setCell ⟨bb, i, none⟩ (.slice A s.length c)) := by
  have hbl := (Array.getElem?_eq_some_iff.1 h.blk).1
  have hst : ∀ k, k ≠ bb → (V2.setCell ⟨bb, i, none⟩ (.slice A s.length c)).heap[k]? = V2.heap[k]? := fun k hk => heap_setCell_other _ _ _ _ hk
  refine ⟨?_, fun x hx => ?_⟩
  · rw [heap_setCell_same V2 bb i _ _ _ ((hb.block bb hbl).trans h.blk)]
    congr 2
    apply Array.ext'
    simp only [List.setIfInBounds_toArray]
    exact icells_set B i (A, c, s)
  · rcases List.mem_or_eq_of_mem_set hx with hx | rfl
    · exact ((h.sets x hx).step (fun k _ hl => hb.block k hl) hb.size (fun k hp _ => hp)).step (fun k hp _ => hst k hp.2) (by simp) (fun k hp _ => hp)
    · exact hs.step (fun k hp _ => hst k (by omega)) (by simp) (fun k hp _ => by omega)
theorem RwB.cell (h : RwB bb base B V) {i : Nat} (hi : i < B.length) : ∃ v, V.cell? ⟨bb, i, none⟩ = some v ∧ V.frozen? ⟨bb, i, none⟩ = false := by
  have hb := h.blk
  refine ⟨ival B[i], ?_, by simp [World.frozen?, hb]⟩
  simp [World.cell?, hb, icells, hi]
theorem RwB.row (h : RwB bb base B V) (hbb : base ≤ bb) (hl : B.length ≤ 1048576) : Dep (fun k => base ≤ k) V (LLx (some ⟨bb, 0, none⟩) B) := fun U hU => by
  have hbl := (Array.getElem?_eq_some_iff.1 h.blk).1
  have hb := (hU bb hbb hbl).trans h.blk
  refine ⟨⟨⟨by rw [icells_length, Nat.mul_one], fun _ => ⟨bb, 0, rfl, fun j u hu => ?_⟩⟩, fun x hx => h.sets x hx U fun k hp hk => hU k hp.1 hk⟩, by omega⟩
  rw [Nat.zero_add]
  simp [World.cell?, hb, hu]
end
def rwC (x : RowI) : List Value := [ival x]
def rwR (x : RowI) (W : World) : Prop := LLx x.1 x.2.2 W
theorem rw_cells (L : List RowI) : L.flatMap rwC = icells L := by
  unfold rwC icells; rw [← List.map_eq_flatMap]
theorem infoHdy : (Try.prog.info? 26).map (fun i => (i.zero, i.size, i.bytes)) = some (some (.slice none 0 0), 1, 24) := by kernel_rfl
end Go.Proofs.Ytpmhdjiacgckjaa
end
