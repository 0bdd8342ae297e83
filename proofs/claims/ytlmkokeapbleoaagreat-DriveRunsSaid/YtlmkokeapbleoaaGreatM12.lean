/- Contracts and plain laws that the law's proof leans on: MkAct DescRule MkAct2 MkEnd RwI Ref19T. Condition: as each theorem says. -/
import Derived.Test.YtlmkokeapbleoaaGreatM11
import Derived.Lib.MinMax
import Derived.Test.YtlmkokeapbleoaaGreatM05
import Derived.Test.YtlmkokeapbleoaaGreatM09
import Derived.Test.YtlmkokeapbleoaaGreatM06
import Derived.Test.YtlmkokeapbleoaaGreatM07
set_option maxRecDepth 100000
set_option maxHeartbeats 64000000
set_option linter.unusedVariables false
set_option linter.unusedSimpArgs false
namespace Go.Proofs.YtlmkokeapbleoaaGreat
section
open Go.RowKit
structure LayS where
 ps : List Place
 acts : List Nat
 ends : List Nat
structure Lays (B : MkB) (V : MkV) (S : LayS) : Prop where
 ps : V.ps = S.ps
 acts : V.acs.map (·.1) = S.acts
 ends : V.es.map (·.1) = S.ends
 aok : ∀ x ∈ V.acs, ∃ r, B.d.rs[x.1]? = some r ∧ (r.dst, []) ∈ V.ps ∧ x.2.L = ⟨r.e, V.ps.idxOf (r.dst, []), r.o.L⟩
 eok : ∀ x ∈ V.es, ∃ f, B.d.fs[x.1]? = some f ∧ x.2.L = f.o.L
def putA (B : MkB) (S : LayS) (i : Nat) : LayS := if i ∈ S.acts then S else { S with ps := putL S.ps (((B.d.rs[i]?).map (·.dst)).getD 0, []), acts := S.acts ++ [i] }
def RetLay (B : MkB) (V : MkV) (S' : LayS) (x : Int) (W : World) (e : Ending) (W' : World) : Prop :=
 ∃ V', e = .returned (.int .i64 x) ∧ Hid (Mk B V' W') ∧ Hid (MkF B V V' W W') ∧ Hid (Lays B V' S') ∧ V'.ns = V.ns
theorem idxOf_app {α : Type} [BEq α] [LawfulBEq α] {l m : List α} {x : α} (h : x ∈ l) : (l ++ m).idxOf x = l.idxOf x := by
 induction l with
 | nil => cases h
 | cons y l ih =>
  rw [List.cons_append, List.idxOf_cons, List.idxOf_cons]
  by_cases e : y = x
  ·simp [e]
  ·have hb : (y == x) = false := by simpa using e
   rw [hb]
   rcases List.mem_cons.1 h with h | h
   ·exact absurd h.symm e
   ·rw [ih h]
theorem idxOf_put {α : Type} [DecidableEq α] [BEq α] [LawfulBEq α] {l : List α} {x y : α} (h : x ∈ l) : (putL l y).idxOf x = l.idxOf x := by
 unfold putL
 split
 ·rfl
 ·rw [idxOf_app h]
theorem mem_put {α : Type} [DecidableEq α] {l : List α} {x y : α} : x ∈ putL l y ↔ x ∈ l ∨ x = y := by
 unfold putL
 split
 ·rename_i h
  constructor
  ·exact .inl
  ·rintro (h2 | rfl)
   ·exact h2
   ·exact h
 ·simp
theorem Lays.withP {B : MkB} {V : MkV} {S : LayS} (h : Lays B V S) (a : Option Addr) (c : Nat) (p : Place) : Lays B (withP V a c (putL V.ps p)) { S with ps := putL S.ps p } :=
 ⟨by show putL V.ps p = _; rw [h.ps], h.acts, h.ends, fun x hx => by
  obtain ⟨r, h1, h2, h3⟩ := h.aok x hx
  exact ⟨r, h1, mem_put.2 (.inl h2), by rw [h3]; show _ = (⟨r.e, ((putL V.ps p).idxOf (r.dst, []) : Nat), r.o.L⟩ : ActL); rw [idxOf_put h2]⟩, h.eok⟩
theorem idxM_look {mb : Nat} {l : List Nat} {W : World} (h : MapIs Tryz.prog 3 mb (idxM l) W) (i : Nat) (hi : I64 (i : Int)) (W' : World) (hW : W'.heap[mb]? = W.heap[mb]?) :
  (Instr.lookup 140 (.map (some mb)) (.int .i64 (i : Int)) true).run Tryz.prog W' = .ok (.tuple #[.int .i64 (if i ∈ l then (l.idxOf i : Int) else 0), .bool (decide (i ∈ l))]) W' := by
 have hkl : keyOf Tryz.prog 3 (.int .i64 (i : Int)) = some (.int .i64 (i : Int)) := Maps.keyOf_int_mk Tryz.underlying3 (i64_wf hi)
 have hnd : l.Nodup := by
  obtain ⟨_, _, _, _, h3, _⟩ := h
  rw [idxM_fst] at h3
  exact nodup_of_map _ h3
 rcases (h.same hW).look true (Maps.int_keyed Tryz.underlying3) Tryz.underlying140 (Tryz.zeroValue3 W') hkl with ⟨hno, hrun⟩ | ⟨v, hv, hrun⟩
 ·have hm : i ∉ l := fun hm => by
   obtain ⟨j, hj⟩ := List.getElem?_of_mem hm
   exact hno _ (idxM_mem.2 ⟨j, i, hj, rfl, rfl⟩) rfl
  rw [hrun]; simp [hm]
 ·obtain ⟨j, q, hq, hk, rfl⟩ := idxM_mem.1 hv
  injection hk with _ hk
  obtain rfl : i = q := by omega
  have hm : i ∈ l := List.mem_of_getElem? hq
  rw [hrun]; simp [hm, idxOf_at hnd hq]
theorem idxM_put {mb : Nat} {l : List Nat} {W : World} (h : MapIs Tryz.prog 3 mb (idxM l) W) (i : Nat) (hi : I64 (i : Int)) (hm : i ∉ l) (hl : l.length ≤ 1048576) :
  ∃ w', (Instr.mapUpdate 140 (.map (some mb)) (.int .i64 (i : Int)) (.int .i64 (l.length : Int))).run Tryz.prog W = .ok () w' ∧ MapIs Tryz.prog 3 mb (idxM (l ++ [i])) w' ∧ W.grownBy w' (some mb) ∧ w'.heap.size = W.heap.size := by
 have hkl : keyOf Tryz.prog 3 (.int .i64 (i : Int)) = some (.int .i64 (i : Int)) := Maps.keyOf_int_mk Tryz.underlying3 (i64_wf hi)
 obtain ⟨w', h1, h2, h3, h4⟩ := h.put (Maps.int_keyed Tryz.underlying3) Tryz.underlying140 (by unfold idxM; rw [List.length_map, List.length_zipIdx]; unfold maxLen; omega) (.int .i64 (l.length : Int)) hkl
 refine ⟨w', h1, ?_, h3, h4⟩
 rw [mapPut_new (fun q hq e => by
  obtain ⟨k, v⟩ := q
  obtain ⟨j, r, hr, hk, _⟩ := idxM_mem.1 hq
  have e2 := hk.symm.trans e
  injection e2 with _ e2
  obtain rfl : r = i := by omega
  exact hm (List.mem_of_getElem? hr))] at h2
 refine h2.congr ?_ ?_
 ·obtain ⟨_, _, _, _, h5, _⟩ := h2
  rw [idxM_snoc, List.map_append]
  rw [List.map_cons] at h5
  have := (List.perm_append_singleton (Value.int .i64 (i : Int)) ((idxM l).map (·.1))).nodup_iff.2 h5
  simpa using this
 ·intro q
  rw [idxM_snoc]
  simp only [List.mem_append, List.mem_cons, List.not_mem_nil, or_false]
  exact Or.comm
def withA (V : MkV) (a : Option Addr) (c : Nat) (acs : List (Nat × ActI)) : MkV := { V with aa := a, ac := c, acs := acs }
theorem Mk.afterAct {B : MkB} {V : MkV} {W W3 : World} (h : Mk B V W) {a : Option Addr} {c : Nat} {x : Nat × ActI} (hs : W.heap.size ≤ W3.heap.size)
  (hk : ∀ k, k < W.heap.size → k ≠ B.mb → k ≠ B.ab → ownA V.aa ≠ some k → W3.heap[k]? = W.heap[k]?)
  (hbox : W3.heap[B.mb]? = some (.cells (mkCells B (withA V a c (V.acs ++ [x]))).toArray 143 (0, 0)))
  (hal : W3.ownsRow B.n 59 3 (.slice a (V.acs ++ [x]).length c) (V.acs ++ [x]).length ((V.acs ++ [x]).flatMap fun y => actC y.2))
  (ham : MapIs Tryz.prog 3 B.ab (idxM ((V.acs ++ [x]).map (·.1))) W3) (hnew : ∀ g, ownA a = some g → ownA V.aa = some g ∨ W.heap.size ≤ g)
  (hx : Dep (fun k => ¬ Mut B (withA V a c (V.acs ++ [x])) k ∧ ¬ B.av k) W3 (ActW x.2)) :
  Mk B (withA V a c (V.acs ++ [x])) W3 ∧ ∀ k, k < W.heap.size → Mut B (withA V a c (V.acs ++ [x])) k → Mut B V k := by
 have hsub : ∀ k, k < W.heap.size → Mut B (withA V a c (V.acs ++ [x])) k → Mut B V k := fun k hl hm => by
  rcases hm with e | e | e | e | e | e | e
  ·exact .inl e
  ·exact .inr (.inl e)
  ·exact .inr (.inr (.inl e))
  ·exact .inr (.inr (.inr (.inl e)))
  ·exact .inr (.inr (.inr (.inr (.inl e))))
  ·rcases hnew k e with e | e
   ·exact .inr (.inr (.inr (.inr (.inr (.inl e)))))
   ·omega
  ·exact .inr (.inr (.inr (.inr (.inr (.inr e)))))
 have hmap : ∀ {b : Nat} {kt : TypeId} {M : List (Value × Value)}, MapIs Tryz.prog kt b M W → b ≠ B.ab → MapIs Tryz.prog kt b M W3 := fun k hn => k.same (hk _ k.lt (fun e => cells_ne_map h.box k e.symm) hn (own_ne_map h.al k))
 refine ⟨⟨hbox, h.cl, h.lo, h.dis, ?_, hmap h.num h.dis.1, h.pok, hal, ham, ?_, hmap h.em h.dis.2.2.symm, ?_, ?_, fun k hk => Nat.lt_of_lt_of_le (h.avl k hk) hs⟩, hsub⟩
 ·exact own_keep h.pl fun k hA => hk k (own_ty h.pl hA).2.1 (fun e => own_ne_cells h.pl h.box tyPM (e ▸ hA)) (fun e => own_ne_map h.pl h.am (e ▸ hA)) (fun e => own_apart h.pl h.al tyPA k hA e)
 ·exact own_keep h.el fun k hA => hk k (own_ty h.el hA).2.1 (fun e => own_ne_cells h.el h.box tyTM (e ▸ hA)) (fun e => own_ne_map h.el h.am (e ▸ hA)) (fun e => own_apart h.al h.el tyAT k e hA)
 ·exact own_keep h.nl fun k hA => hk k (own_ty h.nl hA).2.1 (fun e => own_ne_cells h.nl h.box tyNM (e ▸ hA)) (fun e => own_ne_map h.nl h.am (e ▸ hA)) (fun e => own_apart h.al h.nl tyAN k e hA)
 ·have h2 := h.imm.step (w' := W3) (P' := fun k => ¬ Mut B (withA V a c (V.acs ++ [x])) k ∧ ¬ B.av k) (fun k hn hl => hk k hl (fun e => hn.1 (.inl e)) (fun e => hn.1 (.inr (.inr (.inl e)))) (fun e => hn.1 (.inr (.inr (.inr (.inr (.inr (.inl e)))))))) hs (fun k hn hl => ⟨fun hm => hn.1 (hsub k hl hm), hn.2⟩)
  exact fun U hU => let q := h2 U hU; ⟨q.ls, q.rows, q.fins, fun y hy => by
   rcases List.mem_append.1 hy with hy | hy
   ·exact q.acs y hy
   ·rw [List.mem_singleton] at hy; subst hy; exact hx U hU, q.es, q.ns⟩
theorem ownsRow_setN {W : World} {m b c size : Nat} {et : TypeId} {xs : List Value} {n : Nat} (h : W.ownsRow m et size (.slice (some ⟨b, 0, none⟩) n c) n xs) (k : Nat) (v : Value) : (W.setCell ⟨b, k, none⟩ v).ownsRow m et size (.slice (some ⟨b, 0, none⟩) n c) n (xs.set k v) := by
 refine ⟨by simpa using h.1, ?_⟩
 rcases h.2 with ⟨e, _⟩ | ⟨g, cap, cur, e, hg, hh, hc, hm, hs, ht⟩
 ·cases e
 ·injection e with e1 e2 e3
  injection e1 with e1; injection e1 with e1; subst e1; subst e3
  refine .inr ⟨b, c, cur.setIfInBounds k v, rfl, hg, heap_setCell_same W b k cur et v hh, hc, hm, by simpa using hs, ?_⟩
  rw [Array.toList_setIfInBounds, List.take_set, ht]
theorem act_set (L : List (Nat × ActI)) (i : Nat) (e d0 d1 : Int) (o : OutI) : ((L ++ [(i, (⟨e, d0, o⟩ : ActI))]).flatMap fun y => actC y.2).set (L.length * 3 + 1) (.int .i64 d1) = (L ++ [(i, (⟨e, d1, o⟩ : ActI))]).flatMap fun y => actC y.2 := by
 have hl : (L.flatMap fun y => actC y.2).length = L.length * 3 := by
  induction L with
  | nil => rfl
  | cons y L ih => rw [List.flatMap_cons, List.length_append, ih]; simp [actC]; omega
 rw [List.flatMap_append, List.flatMap_append, set_hi hl]; rfl
theorem Mk.setTo {B : MkB} {V : MkV} {W : World} (h : Mk B V W) {L : List (Nat × ActI)} {i b : Nat} {e d0 : Int} {o : OutI} (hV : V.acs = L ++ [(i, ⟨e, d0, o⟩)]) (hb : V.aa = some ⟨b, 0, none⟩) (d1 : Int) (hd : I64 d1) :
  Mk B (withA V V.aa V.ac (L ++ [(i, ⟨e, d1, o⟩)])) (W.setCell ⟨b, L.length * 3 + 1, none⟩ (.int .i64 d1)) := by
 have hA : ownA V.aa = some b := by rw [hb]; rfl
 have hst : ∀ k, k ≠ b → (W.setCell ⟨b, L.length * 3 + 1, none⟩ (.int .i64 d1)).heap[k]? = W.heap[k]? := fun k hk => heap_setCell_other _ _ _ _ hk
 have hlen : (L ++ [(i, (⟨e, d1, o⟩ : ActI))]).length = V.acs.length := by rw [hV]; simp
 have hmu : ∀ k, Mut B (withA V V.aa V.ac (L ++ [(i, ⟨e, d1, o⟩)])) k ↔ Mut B V k := fun k => Iff.rfl
 refine ⟨?_, h.cl, h.lo, h.dis, ?_, h.num.same (hst B.nb (fun e => own_ne_map h.al h.num (by rw [e]; exact hA))), h.pok, ?_, ?_, ?_, h.em.same (hst B.eb (fun e => own_ne_map h.al h.em (by rw [e]; exact hA))), ?_, ?_, fun k hk => by simpa using h.avl k hk⟩
 ·rw [hst B.mb (fun e => own_ne_cells h.al h.box tyAM (by rw [e]; exact hA)), h.box]
  show some (Obj.cells (mkCells B V).toArray _ _) = some (Obj.cells (mkCells B (withA V V.aa V.ac (L ++ [(i, ⟨e, d1, o⟩)]))).toArray _ _)
  unfold mkCells mkTail withA
  rw [show (L ++ [(i, (⟨e, d1, o⟩ : ActI))]).length = V.acs.length from hlen]; rfl
 ·exact own_keep h.pl fun k hk => hst k (fun e => own_apart h.pl h.al tyPA k hk (e ▸ hA))
 ·have h2 := h.al
  rw [hb] at h2
  have h3 := ownsRow_setN h2 (L.length * 3 + 1) (.int .i64 d1)
  rw [hV, act_set] at h3
  show (W.setCell ⟨b, L.length * 3 + 1, none⟩ (.int .i64 d1)).ownsRow B.n 59 3 (.slice V.aa (L ++ [(i, (⟨e, d1, o⟩ : ActI))]).length V.ac) (L ++ [(i, (⟨e, d1, o⟩ : ActI))]).length _
  rw [hb]
  have e1 : (L ++ [(i, (⟨e, d0, o⟩ : ActI))]).length = (L ++ [(i, (⟨e, d1, o⟩ : ActI))]).length := by simp
  rw [e1] at h3
  exact h3
 ·have h2 := h.am.same (w' := W.setCell ⟨b, L.length * 3 + 1, none⟩ (.int .i64 d1)) (hst B.ab (fun e => own_ne_map h.al h.am (by rw [e]; exact hA)))
  rw [hV] at h2
  simpa [withA] using h2
 ·exact own_keep h.el fun k hk => hst k (fun e => own_apart h.al h.el tyAT k (e ▸ hA) hk)
 ·exact own_keep h.nl fun k hk => hst k (fun e => own_apart h.al h.nl tyAN k (e ▸ hA) hk)
 ·have h2 := h.imm.step (w' := W.setCell ⟨b, L.length * 3 + 1, none⟩ (.int .i64 d1)) (P' := fun k => ¬ Mut B (withA V V.aa V.ac (L ++ [(i, ⟨e, d1, o⟩)])) k ∧ ¬ B.av k) (fun k hn _ => hst k (fun e => hn.1 (.inr (.inr (.inr (.inr (.inr (.inl (e ▸ hA))))))))) (by simp) (fun k hn _ => hn)
  exact fun U hU => let q := h2 U hU; ⟨q.ls, q.rows, q.fins, fun y hy => by
   rcases List.mem_append.1 hy with hy | hy
   ·exact q.acs y (by rw [hV]; exact List.mem_append.2 (.inl hy))
   ·rw [List.mem_singleton] at hy; subst hy
    have h3 := q.acs (i, ⟨e, d0, o⟩) (by rw [hV]; simp)
    exact ⟨⟨h3.1.1, hd⟩, h3.2⟩, q.es, q.ns⟩
end
section
open Go.RowKit
def RuleP (i o n : Int) (r : RuleL) : Prop := StateOk n r.fr ∧ StateOk n r.dst ∧ GuardsOk i r.gs ∧ min (r.gs.length : Int) 1 ≤ r.eat ∧ r.eat ≤ r.gs.length ∧ WritesOk i o r.gs r.out
theorem BoxC.c5 {b : Nat} {v0 v1 v2 v3 v4 : Value} {W : World} (h : BoxC b [v0, v1, v2, v3, v4] W) : W.cell? ⟨b, 0, none⟩ = some v0 ∧ W.cell? ⟨b, 1, none⟩ = some v1 ∧ W.cell? ⟨b, 2, none⟩ = some v2 ∧ W.cell? ⟨b, 3, none⟩ = some v3 ∧ W.cell? ⟨b, 4, none⟩ = some v4 :=
 ⟨h 0 _ rfl, h 1 _ rfl, h 2 _ rfl, h 3 _ rfl, h 4 _ rfl⟩
section
variable {w0 w : World} {F : World → Prop}
theorem rule_st (hK : Hid (St w0 w F)) (i o n s : Int) (ra fa : Option Addr) (rl rc fl fc : Nat) (r : RuleI) (hr : ∀ W, F W → RuleW r W) (v : Bool) (hv : Hid (pB (RuleP i o n r.L) = v)) (hst : ∀ t ∈ r.o.l, StageP t.ps) :
  Calls Tryz.prog 150 #[.agg #[.int .i64 i, .int .i64 o, .int .i64 n, .int .i64 s, .slice ra rl rc, .slice fa fl fc], .agg #[.int .i64 r.fr, .int .i64 r.dst, .slice r.ga r.gs.length r.gc, .int .i64 r.e, .slice r.o.a r.o.l.length r.o.c]] w (RetV w0 (.bool v) F) := by
 have HR := Lh hr
 have HST := Lh hst
 obtain ⟨fr, dst, ga, gc, gs, e, oa, oc, ol⟩ := r
 have hgl := ((hr _ hK.out.now).2.1).2
 simp only at hgl ⊢
 have HK1 := St.box hK [.int .i64 i, .int .i64 o, .int .i64 n, .int .i64 s, .slice ra rl rc, .slice fa fl fc] 26
 have HK := St.box HK1 [.int .i64 fr, .int .i64 dst, .slice ga gs.length gc, .int .i64 e, .slice oa ol.length oc] 102
 have hz : (w.alloc (.cells [.int .i64 i, .int .i64 o, .int .i64 n, .int .i64 s, .slice ra rl rc, .slice fa fl fc].toArray 26)).heap.size = w.heap.size + 1 := by simp
 rw [hz] at HK
 have HV : Hid (pB (RuleP i o n ⟨fr, dst, bodies gs, e, ol.map TermI.L⟩) = v) := hv
 clear hr hst hz HK1 hv
 have hbl : (bodies gs).length = gs.length := bodies_length gs
 obtain ⟨v1, HV1⟩ : ∃ v1, Hid (pB (StateOk n fr) = v1) := ⟨_, rfl⟩
 obtain ⟨v2, HV2⟩ : ∃ v2, Hid (pB (StateOk n dst) = v2) := ⟨_, rfl⟩
 obtain ⟨v3, HV3⟩ : ∃ v3, Hid (pB (GuardsOk i (bodies gs)) = v3) := ⟨_, rfl⟩
 have HBL := Lh hbl
 obtain ⟨p0, p1, p2, p3, p4⟩ := HK.out.now.1.c5
 obtain ⟨q0, q1, q2, q3, q4, q5⟩ := HK.out.now.2.1.c6
 clear hbl
 go_enter Tryz.func150, Tryz.ntmps150
 go_wp2_with fail
 refine (state_st HK i o n s ra fa rl rc fl fc fr v1 HV1).mono ?_
 rintro e w1 ⟨rfl, HK1⟩
 clear p0 p1 p2 p3 p4 q0 q1 q2 q3 q4 q5
 obtain ⟨p0, p1, p2, p3, p4⟩ := HK1.out.now.1.c5
 obtain ⟨q0, q1, q2, q3, q4, q5⟩ := HK1.out.now.2.1.c6
 rcases v1 with _ | _
 ·obtain rfl := pB_f HV (fun h => by have := pB_true h.1; rw [HV1.out] at this; cases this)
  go_wp2_with fail
  go_ret
  exact ⟨rfl, Lh (HK1.out.weaken fun _ h => h.2.2)⟩
 go_wp2_with fail
 refine (state_st HK1 i o n s ra fa rl rc fl fc dst v2 HV2).mono ?_
 rintro e w2 ⟨rfl, HK2⟩
 clear p0 p1 p2 p3 p4 q0 q1 q2 q3 q4 q5
 obtain ⟨p0, p1, p2, p3, p4⟩ := HK2.out.now.1.c5
 obtain ⟨q0, q1, q2, q3, q4, q5⟩ := HK2.out.now.2.1.c6
 rcases v2 with _ | _
 ·obtain rfl := pB_f HV (fun h => by have := pB_true h.2.1; rw [HV2.out] at this; cases this)
  go_wp2_with fail
  go_ret
  exact ⟨rfl, Lh (HK2.out.weaken fun _ h => h.2.2)⟩
 go_wp2_with fail
 refine (guards_st HK2 i (fun _ h => (HR.out _ h.2.2).2.1.llx) gc v3 HV3).mono ?_
 rintro e w3 ⟨rfl, HK3⟩
 clear p0 p1 p2 p3 p4 q0 q1 q2 q3 q4 q5
 obtain ⟨p0, p1, p2, p3, p4⟩ := HK3.out.now.1.c5
 obtain ⟨q0, q1, q2, q3, q4, q5⟩ := HK3.out.now.2.1.c6
 rcases v3 with _ | _
 ·obtain rfl := pB_f HV (fun h => by have := pB_true h.2.2.1; rw [HV3.out] at this; cases this)
  go_wp2_with fail
  go_ret
  exact ⟨rfl, Lh (HK3.out.weaken fun _ h => h.2.2)⟩
 have hg4 : gs.length ≤ 4 := by have := (pB_iff.1 HV3.out).1; rwa [HBL.out] at this
 obtain ⟨m, hm⟩ : ∃ m : Int, min (gs.length : Int) 1 = m := ⟨_, rfl⟩
 by_cases e1 : e < m
 ·obtain rfl := pB_f HV (fun h => by have := h.2.2.2.1; simp only [HBL.out] at this; omega)
  go_wp2_with fail
  go_ret
  exact ⟨rfl, Lh (HK3.out.weaken fun _ h => h.2.2)⟩
 by_cases e2 : e ≤ (gs.length : Int)
 case neg =>
  obtain rfl := pB_f HV (fun h => by have := h.2.2.2.2.1; simp only [HBL.out] at this; omega)
  go_wp2_with fail
  go_ret
  exact ⟨rfl, Lh (HK3.out.weaken fun _ h => h.2.2)⟩
 have HE : Hid (pB (WritesOk i o (bodies gs) (ol.map TermI.L)) = v) := by
  unfold Hid
  rw [← HV.out]
  exact pB_congr ⟨fun h => ⟨pB_iff.1 HV1.out, pB_iff.1 HV2.out, pB_iff.1 HV3.out, by simp only [HBL.out]; omega, by simp only [HBL.out]; omega, h⟩, fun h => h.2.2.2.2.2⟩
 go_wp2_with fail
 refine (writes_st HK3 i o n s ra fa rl rc fl fc (fun _ h => (HR.out _ h.2.2).2.2) oc (fun _ h => (HR.out _ h.2.2).2.1.llx) gc hg4 v HE HST.out).mono ?_
 rintro e w4 ⟨rfl, HK4⟩
 go_wp2_with fail
 go_ret
 exact ⟨rfl, Lh (HK4.out.weaken fun _ h => h.2.2)⟩
end
end
section
open Go.RowKit
theorem infoActM : (Tryz.prog.info? 59).map (fun i => (i.zero, i.size, i.bytes)) = some (some (.agg #[.int .i64 0, .int .i64 0, .slice none 0 0]), 3, 40) := by kernel_rfl
theorem own_fz {W : World} {m sz n c b : Nat} {et : TypeId} {xs : List Value} (h : W.ownsRow m et sz (.slice (some ⟨b, 0, none⟩) n c) n xs) (j : Nat) : W.frozen? ⟨b, j, none⟩ = false := by
 obtain ⟨_, _, cur, e⟩ := own_ty h (k := b) rfl
 simp [World.frozen?, e]
theorem own_some {W : World} {m sz n c : Nat} {et : TypeId} {A : Option Addr} {xs : List Value} (h : W.ownsRow m et sz (.slice A n c) n xs) (hn : 0 < n) : ∃ b, A = some ⟨b, 0, none⟩ := by
 rcases h.2 with ⟨e, e2⟩ | ⟨g, cap, cur, e, _⟩
 ·omega
 ·injection e with e; exact ⟨g, e⟩
theorem act_mk (W : World) (B : MkB) (V : MkV) (S : LayS) (hM : Hid (Mk B V W)) (hS : Hid (Lays B V S)) (hD : Hid (∀ W', Below B.n W W' → DescW B.d W')) (i : Nat) (r : RuleI) (hr : Hid (B.d.rs[i]? = some r)) (hi : i < 1048576) (hpl : V.ps.length ≤ 1000000) (hal : V.acs.length ≤ 1048576)
  (hout : r.o.l.length ≤ 1048576) (hps : Hid (∀ t ∈ r.o.l, t.ps.length ≤ 1048576)) :
  Calls Tryz.prog 127 #[.pointer (some ⟨B.mb, 0, none⟩), .int .i64 (i : Int)] W (RetLay B V (putA B S i) ((putA B S i).acts.idxOf i : Nat) W) := by
 have hi64 : I64 (i : Int) := by unfold I64; omega
 have hlk := idxM_look hM.out.am i hi64 W rfl
 have hm11 := hM.out.clo (i := 11) (by decide) rfl
 have HSA := Lh hS.out.acts
 by_cases hm : i ∈ V.acs.map (·.1)
 ·have hPA : putA B S i = S := by unfold putA; rw [if_pos (by rw [← hS.out.acts]; exact hm)]
  have HPA := Lh hPA
  rw [if_pos hm] at hlk
  rw [show decide (i ∈ V.acs.map (·.1)) = true by simpa using hm] at hlk
  clear hm hPA
  go_enter Tryz.func127, Tryz.ntmps127
  go_wp2_with fail
  go_ret
  exact ⟨V, by rw [HPA.out, ← HSA.out]; rfl, hM, Lh (MkF.refl _ _ _), by rw [HPA.out]; exact hS, rfl⟩
 have hPA : putA B S i = { S with ps := putL S.ps (r.dst, []), acts := S.acts ++ [i] } := by
  unfold putA; rw [if_neg (by rw [← hS.out.acts]; exact hm), hr.out]; rfl
 have HPA := Lh hPA
 have HNM := Lh hm
 rw [if_neg hm] at hlk
 rw [show decide (i ∈ V.acs.map (·.1)) = false by simpa using hm] at hlk
 obtain ⟨rb, off, r', hA, hx, hw, hd0, hd1, hd2, hd3, hd4⟩ := (hD.out W (Below.refl _ _)).rules.at_ (j := i) (List.getElem?_eq_some_iff.1 hr.out).1
 obtain rfl : r = r' := by have := hr.out; rw [this] at hx; exact Option.some.inj hx
 have hm4 := hM.out.clo (i := 4) (by decide) rfl
 rw [hA] at hm4
 have hilt : (i : Int) < (B.d.rs.length : Int) := by have := (List.getElem?_eq_some_iff.1 hr.out).1; omega
 have hi0 : (0 : Int) ≤ (i : Int) := by omega
 obtain ⟨wA, hwA⟩ : ∃ z, W.alloc (.cells #[.int .i64 r.fr, .int .i64 r.dst, .slice r.ga r.gs.length r.gc, .int .i64 r.e, .slice r.o.a r.o.l.length r.o.c] 102) = z := ⟨_, rfl⟩
 have hbA : Below W.heap.size W wA := by rw [← hwA]; exact (Below.refl _ _).alloc (Nat.le_refl _) _
 have hxA : wA.heap[W.heap.size]? = some (.cells #[.int .i64 r.fr, .int .i64 r.dst, .slice r.ga r.gs.length r.gc, .int .i64 r.e, .slice r.o.a r.o.l.length r.o.c] 102 (0, 0)) := by rw [← hwA]; exact heap_alloc_new W _
 have HBA := Lh hbA
 have HXA := Lh hxA
 have HMA := Lh (hM.out.below hbA)
 have hm270 := HMA.out.chi (j := 1) rfl
 have hmA11 := HMA.out.clo (i := 11) (by decide) rfl
 obtain ⟨wB, hrun, hMB, hGB, hSB⟩ := idxM_put HMA.out.am i hi64 hm (by rw [List.length_map]; exact hal)
 rw [List.length_map] at hrun
 have HMB := Lh hMB
 have HGB := Lh hGB
 have HSB := Lh hSB
 have HW := Lh hw
 have HI64 := Lh hi64
 clear hbA hxA hx hw hm hPA hMB hGB hSB hi64
 go_enter Tryz.func127, Tryz.ntmps127
 go_wp2_with fail
 have hAB : ∀ k, k < wA.heap.size → k ≠ B.ab → wB.heap[k]? = wA.heap[k]? := fun k hk hn => HGB.out.block k hk (fun e => hn (by injection e))
 have HAB := Lh hAB
 have hmn : B.mb ≠ B.ab := cells_ne_map HMA.out.box HMA.out.am
 have hWA : W.heap.size < wA.heap.size := (Array.getElem?_eq_some_iff.1 HXA.out).1
 have hWn : W.heap.size ≠ B.ab := fun e => by have := hM.out.am.lt; omega
 obtain ⟨w4, hw4⟩ : ∃ z, wB.drew = z := ⟨_, rfl⟩
 have hh4 : w4.heap = wB.heap := by rw [← hw4]; rfl
 have HH4 := Lh hh4
 have hb4m : w4.heap[B.mb]? = some (.cells (mkCells B V).toArray 143 (0, 0)) := by rw [hh4, hAB _ HMA.out.mlt hmn]; exact HMA.out.box
 have hb4x : w4.heap[W.heap.size]? = some (.cells #[.int .i64 r.fr, .int .i64 r.dst, .slice r.ga r.gs.length r.gc, .int .i64 r.e, .slice r.o.a r.o.l.length r.o.c] 102 (0, 0)) := by rw [hh4, hAB _ hWA hWn]; exact HXA.out
 have h270 : ∀ w' : World, w'.heap[B.mb]? = w4.heap[B.mb]? → w'.cell? ⟨B.mb, 270, none⟩ = some (.slice V.aa V.acs.length V.ac) := fun w' h => by
  have h2 := h.trans hb4m
  have h3 := mkCells_hi B V hM.out.cl 1
  simp only [World.cell?, h2]
  simpa [mkTail] using h3
 have hx5 : ∀ w' : World, w'.heap[W.heap.size]? = w4.heap[W.heap.size]? → w'.cell? ⟨W.heap.size, 3, none⟩ = some (.int .i64 r.e) ∧ w'.cell? ⟨W.heap.size, 4, none⟩ = some (.slice r.o.a r.o.l.length r.o.c) ∧ w'.cell? ⟨W.heap.size, 1, none⟩ = some (.int .i64 r.dst) := fun w' h => by
  have h2 := h.trans hb4x
  refine ⟨?_, ?_, ?_⟩ <;> simp [World.cell?, h2]
 have hs4 : w4.heap.size = wA.heap.size := by rw [hh4]; exact HSB.out
 have hbel4 : Below B.n W w4 := by
  rw [← hw4]
  exact ((HBA.out.mono hM.out.nle).grown HGB.out HMA.out.nle (fun k hk => by injection hk with hk; rw [← hk]; exact HMA.out.lo.2.2.1)).drew
 have HBEL4 := Lh hbel4
 have H270 := Lh h270
 have HX5 := Lh hx5
 have HS4 := Lh hs4
 have HB4M := Lh hb4m
 have HTO : Hid (TermsAt r.o.a r.o.l w4) := Lh ((hD.out w4 hbel4).rules.it r (List.mem_of_getElem? hr.out)).2.2
 have h4a := h270 w4 rfl
 have h4b := hx5 w4 rfl
 have HMN := Lh (And.intro hmn hWn)
 clear hAB hh4 hb4m hb4x h270 hx5 hs4 hbel4 hmn hWn
 refine wp_region_Z 17 (by kernel_rfl) (fun V' => V'.cell? ⟨B.mb, 270, none⟩ = some (.slice V.aa V.acs.length V.ac) ∧ V'.cell? ⟨W.heap.size, 3, none⟩ = some (.int .i64 r.e) ∧ V'.cell? ⟨W.heap.size, 4, none⟩ = some (.slice r.o.a r.o.l.length r.o.c)) (by rw [hw4]; exact ⟨h4a, h4b.1, h4b.2.1⟩) (fun hHeld => ?_)
 refine zt (v := ?_) 0 rfl ?_ ?_
 rotate_left
 ·intro w hSw; (try dsimp only at hSw); go_simp; (try with_reducible rfl)
 (try simp only [Act.put, zq1, zq2, zq3, zq4, zq5, zq6])
 refine zt (v := ?_) 1 rfl ?_ ?_
 rotate_left
 ·intro w hSw; (try dsimp only at hSw); go_simp; (try with_reducible rfl)
 (try simp only [Act.put, zq1, zq2, zq3, zq4, zq5, zq6])
 refine zt (v := ?_) 2 rfl ?_ ?_
 rotate_left
 ·intro w hSw; (try dsimp only at hSw); go_simp; (try with_reducible rfl)
 (try simp only [Act.put, zq1, zq2, zq3, zq4, zq5, zq6])
 refine zt (v := ?_) 3 rfl ?_ ?_
 rotate_left
 ·intro w hSw; (try dsimp only at hSw); go_simp; (try with_reducible rfl)
 (try simp only [Act.put, zq1, zq2, zq3, zq4, zq5, zq6])
 refine zt (v := ?_) 4 rfl ?_ ?_
 rotate_left
 ·intro w hSw; (try dsimp only at hSw); go_simp; (try with_reducible rfl)
 (try simp only [Act.put, zq1, zq2, zq3, zq4, zq5, zq6])
 refine zt (v := ?_) 5 rfl ?_ ?_
 rotate_left
 ·intro w hSw; (try dsimp only at hSw); go_simp; (try with_reducible rfl)
 (try simp only [Act.put, zq1, zq2, zq3, zq4, zq5, zq6])
 refine zt (v := ?_) 6 rfl ?_ ?_
 rotate_left
 ·intro w hSw; (try dsimp only at hSw); go_simp; (try with_reducible rfl)
 (try simp only [Act.put, zq1, zq2, zq3, zq4, zq5, zq6])
 refine zt (v := ?_) 7 rfl ?_ ?_
 rotate_left
 ·intro w hSw; (try dsimp only at hSw); go_simp; (try with_reducible rfl)
 (try simp only [Act.put, zq1, zq2, zq3, zq4, zq5, zq6])
 refine zt (v := ?_) 8 rfl ?_ ?_
 rotate_left
 ·intro w hSw; (try dsimp only at hSw); go_simp; (try with_reducible rfl)
 (try simp only [Act.put, zq1, zq2, zq3, zq4, zq5, zq6])
 refine zt (v := ?_) 9 rfl ?_ ?_
 rotate_left
 ·intro w hSw; (try dsimp only at hSw); go_simp; (try with_reducible rfl)
 (try simp only [Act.put, zq1, zq2, zq3, zq4, zq5, zq6])
 rw [hw4]
 refine wpAnyZ_ready (i := 10) (by kernel_rfl) rfl (fun K hK => ?_)
 go_simp
 refine (own_st w4 HTO.out hout hps.out r.o.c).mono ?_
 rintro e w5 ⟨A5, c5, l5, rfl, HL5, HD5, HB5⟩
 have hB5m : w5.heap[B.mb]? = w4.heap[B.mb]? := HB5.out.block _ (by have := HMA.out.mlt; have := HS4.out; omega)
 have hB5x : w5.heap[W.heap.size]? = w4.heap[W.heap.size]? := HB5.out.block _ (by have := HS4.out; omega)
 have h5a := H270.out w5 hB5m
 have h5b := HX5.out w5 hB5x
 refine hK.out _ _ (⟨h5a, h5b.1, h5b.2.1⟩) (fun hHeld => ?_)
 clear hK K
 (try simp only [Act.put, zq1, zq2, zq3, zq4, zq5, zq6])
 refine zt (v := ?_) 11 rfl ?_ ?_
 rotate_left
 ·intro w hSw; (try dsimp only at hSw); go_simp; (try with_reducible rfl)
 (try simp only [Act.put, zq1, zq2, zq3, zq4, zq5, zq6])
 refine wpAnyZ_ready (i := 12) (by kernel_rfl) rfl (fun K hK => ?_)
 go_simp
 refine hK.out _ _ (⟨cellAl _ h5a, cellAl _ h5b.1, cellAl _ h5b.2.1⟩) (fun hHeld => ?_)
 clear hK K
 (try simp only [Act.put, zq1, zq2, zq3, zq4, zq5, zq6])
 have hs5 := HB5.out.size
 have hA5 : ∀ k, k < wA.heap.size → k ≠ B.ab → w5.heap[k]? = wA.heap[k]? := fun k hk hn => (HB5.out.block k (by have := HS4.out; omega)).trans (by rw [HH4.out]; exact HAB.out k hk hn)
 have HA5 := Lh hA5
 have HAL : Hid (w5.ownsRow B.n 59 3 (.slice V.aa V.acs.length V.ac) V.acs.length (V.acs.flatMap fun y => actC y.2)) := Lh (own_keep HMA.out.al fun k hk => hA5 k (own_ty HMA.out.al hk).2.1 (fun e => own_ne_map HMA.out.al HMA.out.am (e ▸ hk)))
 obtain ⟨i0, hi, hz0, hz1, hz2⟩ := info_parts infoActM
 have hl40 : V.acs.length < 1099511627776 := by omega
 have hn5 : B.n ≤ w5.heap.size := by have := HMA.out.nle; have := HS4.out; omega
 clear hA5
 refine wpAnyZ_ready (i := 13) (by kernel_rfl) rfl (fun K hK => ?_)
 refine step_pushG rfl _ _ 46 rfl B.n 59 i0 _ 3 40 Tryz.underlying46 hi hz0 hz1 hz2 rfl (by decide) HAL.out rfl [.int .i64 r.e, .int .i64 0, .slice A5 l5.length c5] 59 rfl rfl (by simp [Value.oneCell']) hl40 (by decide) hn5 ?_
 intro A9 c9 w9 HO9 HG9 HN9
 have hpm : ownA V.aa ≠ some B.mb := own_ne_cells HMA.out.al HMA.out.box tyAM
 have hpx : ownA V.aa ≠ some W.heap.size := fun e => by have := (own_ty hM.out.al e).2.1; omega
 have hml : B.mb < w5.heap.size := by have := HMA.out.mlt; have := HS4.out; omega
 have h9m : w9.heap[B.mb]? = w4.heap[B.mb]? := (HG9.out.block _ (by simp; omega) (fun e => hpm e.symm)).trans ((Below.heap_alloc _ _ _ hml).trans hB5m)
 have h9x : w9.heap[W.heap.size]? = w4.heap[W.heap.size]? := (HG9.out.block _ (by have := HS4.out; simp; omega) (fun e => hpx e.symm)).trans ((Below.heap_alloc _ _ _ (by have := HS4.out; omega)).trans hB5x)
 have h9a := H270.out w9 h9m
 have h9b := HX5.out w9 h9x
 have h9f : w9.frozen? ⟨B.mb, 270, none⟩ = false := by
  have := h9m.trans HB4M.out
  simp [World.frozen?, this]
 refine hK.out _ _ (⟨h9a, h9b.1, h9b.2.1⟩) (fun hHeld => ?_)
 clear hK K
 (try simp only [Act.put, zq1, zq2, zq3, zq4, zq5, zq6])
 refine wpAnyZ_ready (i := 14) (by kernel_rfl) rfl (fun K hK => ?_)
 go_simp
 refine hK.out _ _ (⟨h9a, h9b.1, h9b.2.1⟩) (fun hHeld => ?_)
 clear hK K
 (try simp only [Act.put, zq1, zq2, zq3, zq4, zq5, zq6])
 refine wpAnyZ_ready (i := 15) (by kernel_rfl) rfl (fun K hK => ?_)
 go_simp
 refine hK.out _ _ (⟨h9a, h9b.1, h9b.2.1⟩) (fun hHeld => ?_)
 clear hK K
 (try simp only [Act.put, zq1, zq2, zq3, zq4, zq5, zq6])
 refine zt (v := ?_) 16 rfl ?_ ?_
 rotate_left
 ·intro w hSw; (try dsimp only at hSw); go_simp; (try with_reducible rfl)
 (try simp only [Act.put, zq1, zq2, zq3, zq4, zq5, zq6])
 refine wpAnyZ_last (i := 17) rfl (by kernel_rfl) (by kernel_rfl) rfl (fun K hK => ?_)
 go_simp
 refine hK.out _ _ ?_
 obtain ⟨w10, hw10⟩ : ∃ z, w9.setCell ⟨B.mb, 270, none⟩ (.slice A9 (V.acs.length + 1) c9) = z := ⟨_, rfl⟩
 have hst : ∀ k, k ≠ B.mb → w10.heap[k]? = w9.heap[k]? := fun k hk => by rw [← hw10]; exact heap_setCell_other _ _ _ _ hk
 have hs9 := HG9.out.size
 simp at hs9
 have hs10 : w10.heap.size = w9.heap.size := by rw [← hw10]; simp
 have hlen : (V.acs ++ [(i, (⟨r.e, 0, ⟨A5, c5, l5⟩⟩ : ActI))]).length = V.acs.length + 1 := by simp
 have hnewA : ∀ g, ownA A9 = some g → ownA V.aa = some g ∨ w5.heap.size + 1 ≤ g := fun g hg => by
  rcases HN9.out with e2 | ⟨q, e2, hq⟩
  ·rw [e2] at hg; exact .inl hg
  ·rw [e2] at hg; injection hg with hg; right; omega
 have hchain : ∀ k, k < wA.heap.size → k ≠ B.mb → k ≠ B.ab → ownA V.aa ≠ some k → w10.heap[k]? = wA.heap[k]? := fun k hk h1 h2 h3 =>
  (hst k h1).trans ((HG9.out.block k (by have := HS4.out; simp; omega) (fun e => h3 e.symm)).trans ((Below.heap_alloc _ _ _ (by have := HS4.out; omega)).trans (HA5.out k hk h2)))
 have hMk := HMA.out.afterAct (W3 := w10) (a := A9) (c := c9) (x := (i, ⟨r.e, 0, ⟨A5, c5, l5⟩⟩)) (by have := HS4.out; omega) hchain
  (by
   rw [← hw10, heap_setCell_same w9 B.mb 270 _ _ _ (h9m.trans HB4M.out), List.setIfInBounds_toArray, ← hlen, mkCells_set270 B V hM.out.cl]; rfl)
  (by
   rw [hlen, List.flatMap_append]
   have h := own_keep HO9.out (w' := w10) (fun k hk => hst k (fun e => by
    rcases hnewA k hk with e2 | e2
    ·exact hpm (e ▸ e2)
    ·omega))
   simpa [actC, OutI.v] using h)
  (by
   rw [List.map_append]
   refine HMB.out.same ((hst _ HMN.out.1.symm).trans ((HG9.out.block _ (by have := HMA.out.am.lt; have := HS4.out; simp; omega) (fun e => own_ne_map HMA.out.al HMA.out.am e.symm)).trans ((Below.heap_alloc _ _ _ (by have := HMA.out.am.lt; have := HS4.out; omega)).trans ((HB5.out.block _ (by have := HMA.out.am.lt; have := HS4.out; omega)).trans (by rw [HH4.out]))))))
  (fun g hg => by
   rcases hnewA g hg with e2 | e2
   ·exact .inl e2
   ·right; have := HS4.out; omega)
  (fun U hU => by
   refine ⟨⟨HW.out.1.2.2, i64_0⟩, HD5.out U fun k hk hl => ?_⟩
   have hfree : ¬ Mut B (withA V A9 c9 (V.acs ++ [(i, ⟨r.e, 0, ⟨A5, c5, l5⟩⟩)])) k := fun hm => by
    have hs4 := HS4.out
    rcases hm with e | e | e | e | e | e | e | e
    ·have := HMA.out.mlt; omega
    ·have := HMA.out.num.lt; omega
    ·have := HMA.out.am.lt; omega
    ·have := HMA.out.em.lt; omega
    ·have := (own_ty HMA.out.pl e).2.1; omega
    ·rcases hnewA k e with e2 | e2
     ·have := (own_ty HMA.out.al e2).2.1; omega
     ·omega
    ·have := (own_ty HMA.out.el e).2.1; omega
    ·have := (own_ty HMA.out.nl e).2.1; omega
   refine (hU k ⟨hfree, fun ha => by have := HMA.out.avl k ha; have := HS4.out; omega⟩ (by omega)).trans ((hst k (fun e => hfree (.inl e))).trans ((HG9.out.block k (by simp; omega) (fun e => ?_)).trans (Below.heap_alloc _ _ _ hl)))
   have := (own_ty HMA.out.al e.symm).2.1
   have := HS4.out
   omega)
 have HM10 := Lh hMk.1
 have HF10 : Hid (MkF B V (withA V A9 c9 (V.acs ++ [(i, ⟨r.e, 0, ⟨A5, c5, l5⟩⟩)])) W w10) := Lh (by
  refine ⟨?_, fun k hk hn => ?_, fun k hk hm => hMk.2 k (by have := HBA.out.size; omega) hm⟩
  ·have h1 : Below B.n W w5 := HBEL4.out.trans (HB5.out.mono (by have := HMA.out.nle; have := HS4.out; omega))
   have h2 := ((h1.alloc hn5 (.cells [.int .i64 r.e, .int .i64 0, .slice A5 l5.length c5].toArray 59)).grown HG9.out (by simp; omega) (fun k hk => (own_ty HMA.out.al hk).1)).setCell (p := ⟨B.mb, 270, none⟩) hM.out.lo.1 (.slice A9 (V.acs.length + 1) c9)
   rw [hw10] at h2
   exact h2
  ·exact (hchain k (by have := HBA.out.size; omega) (fun e => hn (.inl e)) (fun e => hn (.inr (.inr (.inl e)))) (fun e => hn (.inr (.inr (.inr (.inr (.inr (.inl e)))))))).trans (HBA.out.block k hk))
 have h10x : w10.heap[W.heap.size]? = w4.heap[W.heap.size]? := (hst _ (fun e => by have := hM.out.mlt; omega)).trans h9x
 have H10X := Lh h10x
 have HNEWA := Lh hnewA
 clear hHeld hK K h9m h9x h9a h9b h9f hpm hpx hml hst hs9 hs10 hnewA hchain hMk h10x hB5m hB5x h5a h5b hw4 h4a h4b
 (try simp only [Act.put, zq1, zq2, zq3, zq4, zq5, zq6])
 go_wp2_with fail
 rw [hw10]
 obtain ⟨b, hAb⟩ := own_some HM10.out.al (by simp [withA])
 obtain rfl : A9 = some ⟨b, 0, none⟩ := hAb
 obtain ⟨w11, hw11⟩ : ∃ z, w10.drew = z := ⟨_, rfl⟩
 have hb11 : Below w10.heap.size w10 w11 := by rw [← hw11]; exact (Below.refl _ _).drew
 have HM11 := Lh (HM10.out.below hb11)
 have HF11 := Lh (HF10.out.trans (MkF.of_below hb11 HM10.out.nle))
 have hWs : W.heap.size < w10.heap.size := by
  have h1 := H10X.out
  rcases Nat.lt_or_ge W.heap.size w10.heap.size with h | h
  ·exact h
  ·exfalso
   have := HX5.out w10 h1
   have := lt_of_cell this.1
   omega
 have h11x : w11.heap[W.heap.size]? = w4.heap[W.heap.size]? := (hb11.block _ hWs).trans H10X.out
 have h270 : w11.cell? ⟨B.mb, 270, none⟩ = some (.slice (some ⟨b, 0, none⟩) (V.acs.length + 1) c9) := by
  have := HM11.out.chi (j := 1) rfl
  simpa [withA] using this
 have h11b := (HX5.out w11 h11x).2.2
 have H11X := Lh h11x
 have hlen1 : (V.acs.length : Int) < (V.acs.length : Int) + 1 := by omega
 have hlen0 : (0 : Int) ≤ (V.acs.length : Int) := by omega
 have hlen2 : V.acs.length < V.acs.length + 1 := by omega
 clear h11x hb11 hw10
 refine wp_region_Z 13 (by kernel_rfl) (fun V' => V'.cell? ⟨B.mb, 270, none⟩ = some (.slice (some ⟨b, 0, none⟩) (V.acs.length + 1) c9) ∧ V'.cell? ⟨W.heap.size, 1, none⟩ = some (.int .i64 r.dst)) (by rw [hw11]; exact ⟨h270, h11b⟩) (fun hHeld => ?_)
 refine zt (v := ?_) 0 rfl ?_ ?_
 rotate_left
 ·intro w hSw; (try dsimp only at hSw); go_simp; (try with_reducible rfl)
 (try simp only [Act.put, zq1, zq2, zq3, zq4, zq5, zq6])
 refine zt (v := ?_) 1 rfl ?_ ?_
 rotate_left
 ·intro w hSw; (try dsimp only at hSw); go_simp; (try with_reducible rfl)
 (try simp only [Act.put, zq1, zq2, zq3, zq4, zq5, zq6])
 refine zt (v := ?_) 2 rfl ?_ ?_
 rotate_left
 ·intro w hSw; (try dsimp only at hSw); go_simp; (try with_reducible rfl)
 (try simp only [Act.put, zq1, zq2, zq3, zq4, zq5, zq6])
 refine zt (v := ?_) 3 rfl ?_ ?_
 rotate_left
 ·intro w hSw; (try dsimp only at hSw); go_simp; (try with_reducible rfl)
 (try simp only [Act.put, zq1, zq2, zq3, zq4, zq5, zq6])
 refine zt (v := ?_) 4 rfl ?_ ?_
 rotate_left
 ·intro w hSw; (try dsimp only at hSw); go_simp; (try with_reducible rfl)
 (try simp only [Act.put, zq1, zq2, zq3, zq4, zq5, zq6])
 refine zt (v := ?_) 5 rfl ?_ ?_
 rotate_left
 ·intro w hSw; (try dsimp only at hSw); go_simp; (try with_reducible rfl)
 (try simp only [Act.put, zq1, zq2, zq3, zq4, zq5, zq6])
 refine zt (v := ?_) 6 rfl ?_ ?_
 rotate_left
 ·intro w hSw; (try dsimp only at hSw); go_simp; (try with_reducible rfl)
 (try simp only [Act.put, zq1, zq2, zq3, zq4, zq5, zq6])
 refine zt (v := ?_) 7 rfl ?_ ?_
 rotate_left
 ·intro w hSw; (try dsimp only at hSw); go_simp; (try with_reducible rfl)
 (try simp only [Act.put, zq1, zq2, zq3, zq4, zq5, zq6])
 refine zt (v := ?_) 8 rfl ?_ ?_
 rotate_left
 ·intro w hSw; (try dsimp only at hSw); go_simp; (try with_reducible rfl)
 (try simp only [Act.put, zq1, zq2, zq3, zq4, zq5, zq6])
 refine zt (v := ?_) 9 rfl ?_ ?_
 rotate_left
 ·intro w hSw; (try dsimp only at hSw); go_simp; (try with_reducible rfl)
 (try simp only [Act.put, zq1, zq2, zq3, zq4, zq5, zq6])
 rw [hw11]
 refine wpAnyZ_ready (i := 10) (by kernel_rfl) rfl (fun K hK => ?_)
 go_simp
 refine (node_mk w11 B _ HM11 (r.dst, []) ⟨HW.out.1.2.1, by simp, by simp⟩ r.dst 0 0 0 0 0 (Lh rfl) (by show V.ps.length ≤ _; omega)).mono ?_
 rintro e w12 ⟨pa, pc, rfl, HM12, HF12⟩
 have hfx : ¬ Mut B (withA V (some ⟨b, 0, none⟩) c9 (V.acs ++ [(i, ⟨r.e, 0, ⟨A5, c5, l5⟩⟩)])) W.heap.size := fun hm => by
  rcases hm with e | e | e | e | e | e | e | e
  ·have := hM.out.mlt; omega
  ·have := hM.out.num.lt; omega
  ·have := hM.out.am.lt; omega
  ·have := hM.out.em.lt; omega
  ·have := (own_ty hM.out.pl e).2.1; omega
  ·rcases HNEWA.out _ e with e2 | e2
   ·have := (own_ty hM.out.al e2).2.1; omega
   ·have := HB5.out.size; have := HS4.out; omega
  ·have := (own_ty hM.out.el e).2.1; omega
  ·have := (own_ty hM.out.nl e).2.1; omega
 have h12x : w12.heap[W.heap.size]? = w4.heap[W.heap.size]? := (HF12.out.blk _ (by
  have := HX5.out w11 H11X.out
  exact lt_of_cell this.1) hfx).trans H11X.out
 have h12a : w12.cell? ⟨B.mb, 270, none⟩ = some (.slice (some ⟨b, 0, none⟩) (V.acs.length + 1) c9) := by
  have := HM12.out.chi (j := 1) rfl
  simpa [withA, withP] using this
 have h12b := (HX5.out w12 h12x).2.2
 have h12c : ∃ v, w12.cell? ⟨b, V.acs.length * 3 + 1, none⟩ = some v := by
  have h := HM12.out.al
  have h2 : w12.ownsRow B.n 59 3 (.slice (some ⟨b, 0, none⟩) (V.acs ++ [(i, (⟨r.e, 0, ⟨A5, c5, l5⟩⟩ : ActI))]).length c9) (V.acs ++ [(i, (⟨r.e, 0, ⟨A5, c5, l5⟩⟩ : ActI))]).length ((V.acs ++ [(i, (⟨r.e, 0, ⟨A5, c5, l5⟩⟩ : ActI))]).flatMap fun y => actC y.2) := h
  have h3 := h2.1
  rw [h2.cellAt _ (by simp; omega)]
  exact ⟨_, List.getElem?_eq_getElem (by rw [h3]; simp; omega)⟩
 obtain ⟨vc, hvc⟩ := h12c
 have h12f : w12.frozen? ⟨b, V.acs.length * 3 + 1, none⟩ = false := own_fz (HM12.out.al : w12.ownsRow B.n 59 3 (.slice (some ⟨b, 0, none⟩) _ _) _ _) _
 obtain ⟨dx, hdx⟩ : ∃ z : Nat, (putL V.ps (r.dst, [])).idxOf (r.dst, []) = z := ⟨_, rfl⟩
 have hdx2 : (putL (withA V (some ⟨b, 0, none⟩) c9 (V.acs ++ [(i, (⟨r.e, 0, ⟨A5, c5, l5⟩⟩ : ActI))])).ps (r.dst, [])).idxOf (r.dst, []) = dx := hdx
 rw [hdx2]
 have HDX := Lh hdx
 have hdx64 : I64 (dx : Int) := by
  have h1 : dx ≤ V.ps.length + 1 := by
   rw [← hdx]
   have := List.idxOf_le_length (a := ((r.dst, []) : Place)) (l := putL V.ps (r.dst, []))
   refine Nat.le_trans this ?_
   unfold putL
   split <;> simp
  unfold I64; omega
 clear hdx hdx2 hfx h12x
 refine hK.out _ _ (⟨h12a, h12b⟩) (fun hHeld => ?_)
 clear hK K
 (try simp only [Act.put, zq1, zq2, zq3, zq4, zq5, zq6])
 refine wpAnyZ_ready (i := 11) (by kernel_rfl) rfl (fun K hK => ?_)
 go_simp
 refine hK.out _ _ (⟨h12a, h12b⟩) (fun hHeld => ?_)
 clear hK K
 (try simp only [Act.put, zq1, zq2, zq3, zq4, zq5, zq6])
 refine zt (v := ?_) 12 rfl ?_ ?_
 rotate_left
 ·intro w hSw; (try dsimp only at hSw); go_simp; (try with_reducible rfl)
 (try simp only [Act.put, zq1, zq2, zq3, zq4, zq5, zq6])
 refine wpAnyZ_last (i := 13) rfl (by kernel_rfl) (by kernel_rfl) rfl (fun K hK => ?_)
 go_simp
 refine hK.out _ _ ?_
 have HFIN : Hid (RetLay B V (putA B S i) ((putA B S i).acts.idxOf i : Nat) W (.returned (.int .i64 (V.acs.length : Int))) (w12.setCell ⟨b, V.acs.length * 3 + 1, none⟩ (.int .i64 (dx : Int)))) := Lh (by
  have hM3 := HM12.out.setTo (L := V.acs) (i := i) (b := b) (e := r.e) (d0 := 0) (o := ⟨A5, c5, l5⟩) rfl rfl (dx : Int) hdx64
  have hnlo : B.n ≤ b := (own_ty HM12.out.al (k := b) rfl).1
  refine ⟨_, ?_, Lh hM3, Lh ((HF11.out.trans HF12.out).trans (?_ : MkF B _ (withA (withP (withA V (some ⟨b, 0, none⟩) c9 (V.acs ++ [(i, ⟨r.e, 0, ⟨A5, c5, l5⟩⟩)])) pa pc (putL V.ps (r.dst, []))) (some ⟨b, 0, none⟩) c9 (V.acs ++ [(i, ⟨r.e, dx, ⟨A5, c5, l5⟩⟩)])) w12 _)), Lh ⟨?_, ?_, by rw [HPA.out]; exact hS.out.ends, ?_, hS.out.eok⟩, rfl⟩
  ·rw [HPA.out]
   show _ = Ending.returned (.int .i64 (((S.acts ++ [i]).idxOf i : Nat) : Int))
   have hnd : (S.acts ++ [i]).Nodup := by
    rw [← HSA.out]
    obtain ⟨_, _, _, _, h3, _⟩ := hM.out.am
    rw [idxM_fst] at h3
    exact List.nodup_append.2 ⟨nodup_of_map _ h3, by simp, fun a ha b hb e => HNM.out (by rw [List.mem_singleton] at hb; rw [← hb, ← e]; exact ha)⟩
   rw [idxOf_at (i := S.acts.length) hnd (by simp), ← HSA.out, List.length_map]
  ·refine ⟨(Below.refl _ _).setCell hnlo _, fun k hk hn => heap_setCell_other _ _ _ _ (fun e => hn ?_), fun k hk hm => hm⟩
   have e : k = b := e
   subst e
   exact .inr (.inr (.inr (.inr (.inr (.inl rfl)))))
  ·rw [HPA.out]
   show putL V.ps (r.dst, []) = putL S.ps (r.dst, [])
   rw [hS.out.ps]
  ·rw [HPA.out]
   show List.map (fun (x : Nat × ActI) => x.1) (V.acs ++ [(i, ⟨r.e, dx, ⟨A5, c5, l5⟩⟩)]) = S.acts ++ [i]
   rw [List.map_append, HSA.out]; rfl
  ·intro x hx
   rcases List.mem_append.1 hx with hx | hx
   ·obtain ⟨q, h1, h2, h3⟩ := hS.out.aok x hx
    refine ⟨q, h1, mem_put.2 (.inl h2), ?_⟩
    rw [h3]
    show _ = (⟨q.e, ((putL V.ps (r.dst, [])).idxOf (q.dst, []) : Nat), q.o.L⟩ : ActL)
    rw [idxOf_put h2]
   ·rw [List.mem_singleton] at hx
    subst hx
    refine ⟨r, hr.out, mem_put.2 (.inr rfl), ?_⟩
    show (⟨r.e, dx, l5.map TermI.L⟩ : ActL) = ⟨r.e, ((putL V.ps (r.dst, [])).idxOf (r.dst, []) : Nat), r.o.L⟩
    rw [HL5.out, ← HDX.out]; rfl)
 clear hHeld hK K hdx64 h12f hvc h12a h12b hw11 h270 h11b
 (try simp only [Act.put, zq1, zq2, zq3, zq4, zq5, zq6])
 go_wp2_with fail
 go_ret
 exact HFIN.out
end
section
open Go.RowKit
def rowF (l : List Int) (q : Int) : List Int := ((List.range l.length).filter fun j => l[j]? == some q).map fun (j : Nat) => (j : Int)
theorem rowF_mem {l : List Int} {q x : Int} : x ∈ rowF l q ↔ ∃ j : Nat, x = j ∧ l[j]? = some q := by
 unfold rowF
 rw [List.mem_map]
 constructor
 ·rintro ⟨j, hj, rfl⟩
  exact ⟨j, rfl, by simpa using (List.mem_filter.1 hj).2⟩
 ·rintro ⟨j, rfl, hj⟩
  exact ⟨j, List.mem_filter.2 ⟨List.mem_range.2 (List.getElem?_eq_some_iff.1 hj).1, by simpa using hj⟩, rfl⟩
theorem rowF_len (l : List Int) (q : Int) : (rowF l q).length ≤ l.length := by
 unfold rowF
 rw [List.length_map]
 have := List.length_filter_le (fun j => l[j]? == some q) (List.range l.length)
 rwa [List.length_range] at this
theorem rowF_rise (l : List Int) (q : Int) : (rowF l q).Pairwise (· < ·) := by
 unfold rowF
 rw [List.pairwise_map]
 exact (List.pairwise_lt_range.sublist List.filter_sublist).imp fun h => by omega
theorem rowF_ahead {l : List Int} {q : Int} {y : Nat} {j j' : Nat} (h : (rowF l q)[y]? = some (j : Int)) (hj : j' < j) (hl : l[j']? = some q) : (j' : Int) ∈ (rowF l q).take y := by
 obtain ⟨y', hy'⟩ := List.getElem?_of_mem (rowF_mem.2 ⟨j', rfl, hl⟩)
 have h1 := List.getElem?_eq_some_iff.1 h
 have h2 := List.getElem?_eq_some_iff.1 hy'
 rcases Nat.lt_or_ge y' y with hlt | hge
 ·exact List.mem_of_getElem? (i := y') (by rw [List.getElem?_take_of_lt hlt]; exact hy')
 ·exfalso
  rcases Nat.lt_or_eq_of_le hge with hlt | heq
  ·have := (List.pairwise_iff_getElem.1 (rowF_rise l q)) y y' h1.1 h2.1 hlt
   rw [h1.2, h2.2] at this; omega
  ·subst heq
   rw [h] at hy'
   injection hy' with hy'; omega
structure MkOk (B : MkB) : Prop where
 ok : DescOk B.d.L
 rn : B.rows.length = B.d.n.toNat
 fn : B.fins.length = B.d.n.toNat
 rows : ∀ q : Nat, (q : Int) < B.d.n → ∃ a c, B.rows[q]? = some (a, c, rowF (B.d.rs.map (·.fr)) q)
 fins : ∀ q : Nat, (q : Int) < B.d.n → ∃ a c, B.fins[q]? = some (a, c, rowF (B.d.fs.map (·.fr)) q)
 parts : (∀ r ∈ B.d.rs, ∀ t ∈ r.o.l, t.ps.length ≤ 1048576) ∧ ∀ r ∈ B.d.fs, ∀ t ∈ r.o.l, t.ps.length ≤ 1048576
def EndC (B : MkB) (p : Place) (j : Nat) : Prop := ∃ f, B.d.fs[j]? = some f ∧ f.fr = p.1 ∧ f.gs.length = p.2.length ∧ OnG B.ls (bodies f.gs) p.2
noncomputable def endF (B : MkB) (p : Place) : Option Nat := (List.range B.d.fs.length).find? fun j => pB (EndC B p j)
theorem find_range {n j : Nat} {P : Nat → Bool} (hj : j < n) (hP : P j = true) (hno : ∀ j' < j, P j' = false) : (List.range n).find? P = some j := by
 rw [List.find?_range_eq_some]
 exact ⟨hP, List.mem_range.2 hj, fun k hk => by rw [hno k hk]; rfl⟩
theorem endF_some {B : MkB} {p : Place} {j : Nat} (h : EndC B p j) (hno : ∀ j' < j, ¬ EndC B p j') : endF B p = some j := by
 obtain ⟨f, hf, _⟩ := id h
 exact find_range (List.getElem?_eq_some_iff.1 hf).1 (pB_true h) fun j' hj' => pB_false (hno j' hj')
theorem endF_none {B : MkB} {p : Place} (hno : ∀ j, ¬ EndC B p j) : endF B p = none := by
 unfold endF
 rw [List.find?_eq_none]
 intro j _
 rw [pB_false (hno j)]; simp
noncomputable def putE (B : MkB) (S : LayS) (p : Place) : LayS := match endF B p with
 | none => S
 | some j => { S with ends := putL S.ends j }
noncomputable def endI (B : MkB) (S : LayS) (p : Place) : Int := match endF B p with
 | none => -1
 | some j => ((putL S.ends j).idxOf j : Nat)
def withE (V : MkV) (a : Option Addr) (c : Nat) (es : List (Nat × OutI)) : MkV := { V with ea := a, ec := c, es := es }
theorem Mk.afterEnd {B : MkB} {V : MkV} {W W3 : World} (h : Mk B V W) {a : Option Addr} {c : Nat} {x : Nat × OutI} (hs : W.heap.size ≤ W3.heap.size)
  (hk : ∀ k, k < W.heap.size → k ≠ B.mb → k ≠ B.eb → ownA V.ea ≠ some k → W3.heap[k]? = W.heap[k]?)
  (hbox : W3.heap[B.mb]? = some (.cells (mkCells B (withE V a c (V.es ++ [x]))).toArray 143 (0, 0)))
  (hel : W3.ownsRow B.n 57 1 (.slice a (V.es ++ [x]).length c) (V.es ++ [x]).length ((V.es ++ [x]).flatMap fun y => [OutI.v y.2]))
  (hem : MapIs Tryz.prog 3 B.eb (idxM ((V.es ++ [x]).map (·.1))) W3) (hnew : ∀ g, ownA a = some g → ownA V.ea = some g ∨ W.heap.size ≤ g)
  (hx : Dep (fun k => ¬ Mut B (withE V a c (V.es ++ [x])) k ∧ ¬ B.av k) W3 (OutW x.2)) :
  Mk B (withE V a c (V.es ++ [x])) W3 ∧ ∀ k, k < W.heap.size → Mut B (withE V a c (V.es ++ [x])) k → Mut B V k := by
 have hsub : ∀ k, k < W.heap.size → Mut B (withE V a c (V.es ++ [x])) k → Mut B V k := fun k hl hm => by
  rcases hm with e | e | e | e | e | e | e | e
  ·exact .inl e
  ·exact .inr (.inl e)
  ·exact .inr (.inr (.inl e))
  ·exact .inr (.inr (.inr (.inl e)))
  ·exact .inr (.inr (.inr (.inr (.inl e))))
  ·exact .inr (.inr (.inr (.inr (.inr (.inl e)))))
  ·rcases hnew k e with e | e
   ·exact .inr (.inr (.inr (.inr (.inr (.inr (.inl e))))))
   ·omega
  ·exact .inr (.inr (.inr (.inr (.inr (.inr (.inr e))))))
 have hmap : ∀ {b : Nat} {kt : TypeId} {M : List (Value × Value)}, MapIs Tryz.prog kt b M W → b ≠ B.eb → MapIs Tryz.prog kt b M W3 := fun k hn => k.same (hk _ k.lt (fun e => cells_ne_map h.box k e.symm) hn (own_ne_map h.el k))
 refine ⟨⟨hbox, h.cl, h.lo, h.dis, ?_, hmap h.num h.dis.2.1, h.pok, ?_, hmap h.am h.dis.2.2, hel, hem, ?_, ?_, fun k hk => Nat.lt_of_lt_of_le (h.avl k hk) hs⟩, hsub⟩
 ·exact own_keep h.pl fun k hA => hk k (own_ty h.pl hA).2.1 (fun e => own_ne_cells h.pl h.box tyPM (e ▸ hA)) (fun e => own_ne_map h.pl h.em (e ▸ hA)) (fun e => own_apart h.pl h.el tyPT k hA e)
 ·exact own_keep h.al fun k hA => hk k (own_ty h.al hA).2.1 (fun e => own_ne_cells h.al h.box tyAM (e ▸ hA)) (fun e => own_ne_map h.al h.em (e ▸ hA)) (fun e => own_apart h.al h.el tyAT k hA e)
 ·exact own_keep h.nl fun k hA => hk k (own_ty h.nl hA).2.1 (fun e => own_ne_cells h.nl h.box tyNM (e ▸ hA)) (fun e => own_ne_map h.nl h.em (e ▸ hA)) (fun e => own_apart h.el h.nl tyTN k e hA)
 ·have h2 := h.imm.step (w' := W3) (P' := fun k => ¬ Mut B (withE V a c (V.es ++ [x])) k ∧ ¬ B.av k) (fun k hn hl => hk k hl (fun e => hn.1 (.inl e)) (fun e => hn.1 (.inr (.inr (.inr (.inl e))))) (fun e => hn.1 (.inr (.inr (.inr (.inr (.inr (.inr (.inl e))))))))) hs (fun k hn hl => ⟨fun hm => hn.1 (hsub k hl hm), hn.2⟩)
  exact fun U hU => let q := h2 U hU; ⟨q.ls, q.rows, q.fins, q.acs, fun y hy => by
   rcases List.mem_append.1 hy with hy | hy
   ·exact q.es y hy
   ·rw [List.mem_singleton] at hy; subst hy; exact hx U hU, q.ns⟩
theorem Mk.has_st {B : MkB} {V : MkV} {W : World} (h : Mk B V W) {G : World → Prop} (hG : ∀ W', Below W.heap.size W W' → G W') :
  Hid (St W W (fun W' => (W'.cell? ⟨B.mb, 6, none⟩ = some (.slice B.la B.ls.length B.lc) ∧ IntsAt B.la B.ls W') ∧ G W')) :=
 Lh ⟨fun W' hW => ⟨⟨(h.below hW).clo (i := 6) (by decide) rfl, (h.below hW).imm.now.ls⟩, hG W' hW⟩, Below.refl _ _⟩
end
section
open Go.RowKit
theorem run_append_slN {P : Program} (w : World) (base : Nat) (t ty e : TypeId) (i : TypeInfo) (z : Value) (size bytes : Nat) (ht : P.underlying t = some (.slice e)) (hi : P.info? e = some i) (hz : i.zero = some z)
  (hsize : i.size = size) (hby : i.bytes = bytes) (hzs : z.cells.size = size) (hsz : 0 < size)
  (v : Value) (n : Nat) (xs : List Value) (hown : w.ownsRow base e size v n xs)
  (A : Option Addr) (m c : Nat) (news : List Value) (hr : Sl w size A m news) (h1 : ∀ u ∈ news, u.oneCell' = true)
  (h63 : n + m ≤ maxLen) (hbytes : (n + m) * bytes ≤ 140737488355328) (hbase : base ≤ w.heap.size) :
  ∃ v' w', (Builtin.append_ #[t, t] ty #[v, .slice A m c]).run P w = .ok v' w' ∧ w'.ownsRow base e size v' (n + m) (xs ++ news) ∧ w.grownBy w' v.ownBlock ∧ (v'.ownBlock = v.ownBlock ∨ v'.ownBlock = some w.heap.size) := by
 rcases A with _ | ad
 ·have hm : m = 0 := by
   rcases Nat.eq_zero_or_pos m with h0 | h0
   ·exact h0
   ·obtain ⟨b, off, h, _⟩ := hr.2 h0
    cases h
  subst hm
  have hn : news = [] := List.eq_nil_of_length_eq_zero (by simpa using hr.1)
  subst hn
  exact ⟨v, w, run_append_of_nil w base t ty e i size ht hi v n xs hown c, by simpa using hown, World.grownBy.refl w _, .inl rfl⟩
 ·have hcells : ∀ j u, news[j]? = some u → w.cell? (ad.add j) = some u := by
   intro j u hu
   rcases Nat.eq_zero_or_pos m with h0 | h0
   ·subst h0
    have hn : news = [] := List.eq_nil_of_length_eq_zero (by simpa using hr.1)
    subst hn
    simp at hu
   ·obtain ⟨b, off, h, hc⟩ := hr.2 h0
    cases h
    rw [add_plain]
    exact hc j u hu
  obtain ⟨v', w', hrun, h2, h3, _, h5⟩ := run_append_own_at (P := P) w base t ty e i z size bytes ht hi hz hsize hby hzs hsz v n xs hown ad m c news hr.1 hcells h1 h63 hbytes hbase
  exact ⟨v', w', hrun, h2, h3, h5⟩
theorem wpList_append_slN {P : Program} (w : World) {ops : Array Oper} {rest : List Oper} {o : Oper} {a : Act} {Q : Exit → Act → World → Prop} (hgd : o.guard = none) (s x : Operand) (t : TypeId)
  (ho : o.op = .call { callee := .builtin .append, args := #[s, x], argTypes := #[t, t] })
  (base : Nat) (e : TypeId) (i : TypeInfo) (z : Value) (size bytes : Nat) (ht : P.underlying t = some (.slice e)) (hi : P.info? e = some i) (hz : i.zero = some z)
  (hsize : i.size = size) (hby : i.bytes = bytes) (hzs : z.cells.size = size) (hsz : 0 < size)
  {A0 : Option Addr} {n c0 : Nat} {xs : List Value} (hown : w.ownsRow base e size (.slice A0 n c0) n xs) (hs : a.eval s = .slice A0 n c0)
  {A : Option Addr} {m c : Nat} {news : List Value} (hr : Sl w size A m news) (hx : a.eval x = .slice A m c) (h1 : ∀ u ∈ news, u.oneCell' = true)
  (h63 : n + m ≤ maxLen) (hbytes : (n + m) * bytes ≤ 140737488355328) (hbase : base ≤ w.heap.size)
  (h : ∀ A' c' w', Hid (w'.ownsRow base e size (.slice A' (n + m) c') (n + m) (xs ++ news)) → Hid (w.grownBy w' (ownA A0)) → Hid (Newer (ownA A0) (ownA A') w.heap.size) → wpList P ops Q rest (a.put o.dst (.slice A' (n + m) c')) w') : wpList P ops Q (o :: rest) a w := by
 refine wpList_plain hgd fun _ hK => ?_
 obtain ⟨v', w', hrun, h2, h3, h4⟩ := run_append_slN (P := P) w base t o.type e i z size bytes ht hi hz hsize hby hzs hsz (.slice A0 n c0) n xs hown A m c news hr h1 h63 hbytes hbase
 obtain ⟨A', c', rfl⟩ := own_shape h2
 unfold Oper.wp execOp
 simp only [ho, resolve, invoke, builtin, Sem.run_bind, Sem.run_pure, Result.andThen_ok, List.map_toArray, List.map_cons, List.map_nil, hs, hx, hrun]
 refine hK _ _ (h A' c' w' (Lh h2) (Lh (by rw [← own_ownA]; exact h3)) (Lh ?_))
 rw [own_ownA, own_ownA] at h4
 rcases h4 with h4 | h4
 ·exact .inl h4
 ·exact .inr ⟨_, h4, Nat.le_refl _⟩
theorem wpList_copyW {P : Program} {w : World} {ops : Array Oper} {rest : List Oper} {o : Oper} {a : Act} {Q : Exit → Act → World → Prop} (hgd : o.guard = none) (d s : Operand) (dT sT : TypeId) (ho : o.op = .call { callee := .builtin .copy, args := #[d, s], argTypes := #[dT, sT] }) (elem : TypeId) (hu : P.underlying dT = some (.slice elem))
  (hsz : (P.info? elem).map (·.size) = some 1) (g off dLen dCap sLen sCap n : Nat) (ad : Addr) (hd : a.eval d = .slice (some ⟨g, off, none⟩) dLen dCap) (hs : a.eval s = .slice (some ad) sLen sCap)
  (cur : Array Value) (t : TypeId) (hg : w.heap[g]? = some (.cells cur t (0, 0))) (cs : List Value) (hn : cs.length = n) (hm : n = Nat.min sLen dLen) (hsrc : ∀ j v, cs[j]? = some v → w.cell? (ad.add j) = some v)
  (hfit : off + n ≤ cur.size) (h1 : ∀ v ∈ cs, v.oneCell' = true) (new : Array Value) (hnew : (cur.toList.take off ++ cs ++ cur.toList.drop (off + n)).toArray = new)
  (h : ∀ w', Hid (w' = w.setRow g new) → wpList P ops Q rest (a.put o.dst (.int .i64 n)) w') : wpList P ops Q (o :: rest) a w := by
 refine wpList_plain hgd fun _ hK => ?_
 subst hn
 have hrun := run_copy_row (P := P) w dT sT o.type elem g off dLen dCap ad sLen sCap cur t cs hu hsz hg hm hsrc hfit h1
 unfold Oper.wp
 simp [execOp, ho, resolve, invoke, builtin, hd, hs, hrun, Result.andThen]
 subst hnew
 refine hK _ _ ?_
 have h2 := h (w.setRow g (List.take off cur.toList ++ cs ++ List.drop (off + cs.length) cur.toList).toArray) (Lh rfl)
 simpa [goInt] using h2
structure RwI (bb base : Nat) (B : List (Item Int)) (V : World) : Prop where
 blk : V.heap[bb]? = some (.cells (icells B).toArray 62 (0, 0))
 own : ∀ (i : Nat) x, B[i]? = some x → V.ownsRow base 3 1 (.slice x.1 x.2.2.length x.2.1) x.2.2.length (x.2.2.map (Value.int .i64))
 dis : ∀ (i j : Nat) x y, i ≠ j → B[i]? = some x → B[j]? = some y → ∀ k, ownA x.1 = some k → ownA y.1 ≠ some k
 rng : ∀ x ∈ B, ∀ v ∈ x.2.2, I64 v
section
variable {bb base : Nat} {B : List (Item Int)} {V V2 : World}
theorem RwI.start (V : World) (n base : Nat) : RwI V.heap.size base (List.replicate n (none, 0, [])) (V.alloc (.cells (madeCells #[.slice none 0 0] n) 62)) := by
 refine ⟨?_, fun i x hx => ?_, fun i j x y _ hx _ k hk => ?_, fun x hx => ?_⟩
 ·rw [heap_alloc_new V _]
  congr 2
  apply Array.ext'
  rw [toList_madeCells_one]
  simp [icells, ival]
 ·obtain ⟨_, rfl⟩ := List.mem_replicate.1 (List.mem_of_getElem? hx)
  exact World.ownsRow_nil _ _ _ _
 ·obtain ⟨_, rfl⟩ := List.mem_replicate.1 (List.mem_of_getElem? hx)
  cases hk
 ·obtain ⟨_, rfl⟩ := List.mem_replicate.1 hx
  intro v hv; cases hv
theorem RwI.lt (h : RwI bb base B V) : bb < V.heap.size := (Array.getElem?_eq_some_iff.1 h.blk).1
theorem RwI.keep (h : RwI bb base B V) (hb : V2.heap[bb]? = V.heap[bb]?) (hk : ∀ k, base ≤ k → k < V.heap.size → (∃ cur, V.heap[k]? = some (.cells cur 3 (0, 0))) → V2.heap[k]? = V.heap[k]?) : RwI bb base B V2 :=
 ⟨hb.trans h.blk, fun i x hx => own_keep (h.own i x hx) fun k hA => let t := own_ty (h.own i x hx) hA; hk k t.1 t.2.1 t.2.2, h.dis, h.rng⟩
theorem RwI.re (h : RwI bb base B V) {b2 : Nat} (hn : ∀ x ∈ B, x.1 = none) : RwI bb b2 B V := by
 refine ⟨h.blk, fun i x hx => ?_, h.dis, h.rng⟩
 have e := hn x (List.mem_of_getElem? hx)
 have h2 := h.own i x hx
 rw [e] at h2 ⊢
 rcases h2.2 with e3 | ⟨g, cap, cur, e2, _⟩
 ·exact ⟨h2.1, .inl e3⟩
 ·cases e2
theorem RwI.below (h : RwI bb base B V) (hb : Below V.heap.size V V2) : RwI bb base B V2 := h.keep (hb.block _ h.lt) fun k _ hl _ => hb.block k hl
theorem RwI.cell (h : RwI bb base B V) {i : Nat} {a : Option Addr} {c : Nat} {l : List Int} (hx : B[i]? = some (a, c, l)) : V.cell? ⟨bb, i, none⟩ = some (.slice a l.length c) ∧ V.frozen? ⟨bb, i, none⟩ = false := by
 have hb := h.blk
 refine ⟨?_, by simp [World.frozen?, hb]⟩
 simp [World.cell?, hb, icells, hx, ival]
theorem RwI.push (h : RwI bb base B V) (hbb : bb < base) (hbs : base ≤ V.heap.size) {i : Nat} {a a' : Option Addr} {c c' : Nat} {l : List Int} {x : Int} {o : Obj} (hx : B[i]? = some (a, c, l)) (hx64 : I64 x)
  (ho : V2.ownsRow base 3 1 (.slice a' (l.length + 1) c') (l.length + 1) (l.map (Value.int .i64) ++ [.int .i64 x])) (hg : (V.alloc o).grownBy V2 (ownA a)) (hn : Newer (ownA a) (ownA a') (V.heap.size + 1)) :
  RwI bb base (B.set i (a', c', l ++ [x])) (V2.setCell ⟨bb, i, none⟩ (.slice a' (l.length + 1) c')) := by
 have hab : ownA a ≠ some bb := fun e => by have := (own_ty (h.own i _ hx) e).1; omega
 have hst : ∀ k, k ≠ bb → (V2.setCell ⟨bb, i, none⟩ (.slice a' (l.length + 1) c')).heap[k]? = V2.heap[k]? := fun k hk => heap_setCell_other _ _ _ _ hk
 have h2 : ∀ k, k < V.heap.size → ownA a ≠ some k → V2.heap[k]? = V.heap[k]? := fun k hk hne => (hg.block k (by simp; omega) (fun e => hne e.symm)).trans (Below.heap_alloc _ _ _ hk)
 have hil := (List.getElem?_eq_some_iff.1 hx).1
 have hlen : (l ++ [x]).length = l.length + 1 := by simp
 have hnew : ∀ k, ownA a' = some k → ownA a = some k ∨ V.heap.size + 1 ≤ k := fun k hk => by
  rcases hn with e | ⟨g, e, hg2⟩
  ·rw [e] at hk; exact .inl hk
  ·rw [e] at hk; injection hk with hk; exact .inr (by omega)
 have hoth : ∀ (j : Nat) y, j ≠ i → B[j]? = some y → ∀ k, ownA y.1 = some k → ownA a' ≠ some k := fun j y hj hy k hk hk2 => by
  rcases hnew k hk2 with e | e
  ·exact h.dis i j _ _ (fun e => hj e.symm) hx hy k e hk
  ·have := (own_ty (h.own j y hy) hk).2.1; omega
 refine ⟨?_, fun j y hy => ?_, fun j j' y y' hne hy hy' => ?_, fun y hy => ?_⟩
 ·rw [heap_setCell_same V2 bb i _ _ _ ((h2 bb h.lt hab).trans h.blk)]
  congr 2
  apply Array.ext'
  simp only [List.setIfInBounds_toArray]
  rw [← hlen]
  exact icells_set B i (a', c', l ++ [x])
 ·by_cases e : j = i
  ·subst e
   rw [List.getElem?_set_self hil] at hy
   injection hy with hy; subst hy
   have h3 := own_keep (w' := V2.setCell ⟨bb, j, none⟩ (.slice a' (l.length + 1) c')) ho (fun k hk => hst k (fun e => by have := (own_ty ho hk).1; omega))
   simpa using h3
  ·rw [List.getElem?_set_ne (fun h => e h.symm)] at hy
   refine own_keep (h.own j y hy) fun k hk => ?_
   have ht := own_ty (h.own j y hy) hk
   exact (hst k (by omega)).trans (h2 k ht.2.1 (h.dis j i _ _ e hy hx k hk))
 ·by_cases e : j = i
  ·subst e
   rw [List.getElem?_set_self hil] at hy
   injection hy with hy; subst hy
   rw [List.getElem?_set_ne hne] at hy'
   intro k hk hk2
   exact hoth j' y' (fun e => hne e.symm) hy' k hk2 hk
  ·rw [List.getElem?_set_ne (fun h => e h.symm)] at hy
   by_cases e' : j' = i
   ·subst e'
    rw [List.getElem?_set_self hil] at hy'
    injection hy' with hy'; subst hy'
    exact hoth j y e hy
   ·rw [List.getElem?_set_ne (fun h => e' h.symm)] at hy'
    exact h.dis j j' y y' hne hy hy'
 ·rcases List.mem_or_eq_of_mem_set hy with hy | rfl
  ·exact h.rng y hy
  ·intro v hv
   rcases List.mem_append.1 hv with hv | hv
   ·exact h.rng _ (List.mem_of_getElem? hx) v hv
   ·rw [List.mem_singleton] at hv; subst hv; exact hx64
theorem RwI.row (h : RwI bb base B V) (hl : B.length ≤ 1048576) (hm : ∀ x ∈ B, x.2.2.length ≤ 1048576) (P : Nat → Prop) (hP : P bb) (hPb : ∀ k, base ≤ k → k < V.heap.size → (∃ cur, V.heap[k]? = some (.cells cur 3 (0, 0))) → P k) : Dep P V (LLi (some ⟨bb, 0, none⟩) B) := fun U hU => by
 have hb := (hU bb hP h.lt).trans h.blk
 refine ⟨⟨⟨by rw [icells_length, Nat.mul_one], fun _ => ⟨bb, 0, rfl, fun j u hu => ?_⟩⟩, fun x hx => ?_⟩, by omega⟩
 ·rw [Nat.zero_add]
  simp [World.cell?, hb, hu]
 ·obtain ⟨i, hi⟩ := List.getElem?_of_mem hx
  have h1 := h.own i x hi
  have h2 := own_keep (w' := U) h1 fun k hA => let t := own_ty h1 hA; hU k (hPb k t.1 t.2.1 t.2.2) t.2.1
  have h3 := Sl.of_own h2
  refine ⟨?_, h.rng x hx, by have := hm x hx; omega⟩
  rw [← List.map_eq_flatMap]
  exact h3
end
theorem rowF_snoc (l : List Int) (x q : Int) : rowF (l ++ [x]) q = if x = q then rowF l q ++ [(l.length : Int)] else rowF l q := by
 unfold rowF
 rw [List.length_append, List.length_singleton, List.range_succ, List.filter_append, List.map_append]
 have h1 : ((List.range l.length).filter fun j => (l ++ [x])[j]? == some q) = (List.range l.length).filter fun j => l[j]? == some q := List.filter_congr fun j hj => by
  rw [List.getElem?_append_left (List.mem_range.1 hj)]
 rw [h1]
 by_cases e : x = q
 ·subst e; simp
 ·simp [e]
end
section
open Go.RowKit
def RetTk (cs : Array Value) (T : TabI) (s : Drv.S) (cl : Bool) (x : Int) (W : World) (e : Ending) (W' : World) : Prop :=
 ∃ A c ha' hc', e = .returned (.tuple #[.agg (rdC cs (Drv.go (drvM T.L) s [x]).1.node ha' hc' (Drv.go (drvM T.L) s [x]).1.held cl (Drv.go (drvM T.L) s [x]).1.rej), .slice A (Drv.go (drvM T.L) s [x]).2.length c]) ∧ Hid (Below W.heap.size W W') ∧
  Hid (W'.ownsRow W.heap.size 5 1 (.slice A (Drv.go (drvM T.L) s [x]).2.length c) (Drv.go (drvM T.L) s [x]).2.length ((Drv.go (drvM T.L) s [x]).2.map (Value.int .u8))) ∧ Hid (Dep (fun k => W.heap.size ≤ k) W' (BytesAt ha' (Drv.go (drvM T.L) s [x]).1.held))
theorem tk_end {Q : Ending → World → Prop} {a : Act} {Wx : World} {rb : Nat} {v : Value} (hd : a.defers = []) (h2 : a.tmps.getD 4 undef = .pointer (some ⟨rb, 0, none⟩)) (h3 : a.tmps.getD 5 undef = v) {old : Array Value} (hg : Wx.heap[rb]? = some (.cells old 81 (0, 0)))
  {C : Array Value} (hC : C.size = 263) (hq : Q (.returned (.tuple #[.agg C, v])) (Wx.setRow rb C)) : bodyPost Tryz.prog Tryz.f104 Q .ret a (Wx.setRow rb C) :=
 bodyPost_ret (v := .tuple #[.agg C, v]) (results_row2 rfl _ _ _ _ _ _ _ _ h2 h3 (setRow_heap _ _ _ _ _ _ hg) Tryz.underlying81 rfl (by rw [hC]; exact info_refS)) hd hq
structure TkI (cs : Array Value) (T : TabI) (cl : Bool) (s0 : Drv.S) (yn : Int) (z : Array Value) (W : World) (nb : Nat) (A4 : Option Addr) (c4 : Nat) (wl : List Int) (en i : Nat) (sc : Drv.S) (ha : Option Addr) (hc : Nat) (A : Option Addr) (c : Nat) (o : List Int) (wr : World) : Prop where
 box : RdB W.heap.size (rdC cs sc.node ha hc sc.held cl sc.rej) wr
 res : RdB (W.heap.size + 1) z wr
 row : wr.ownsRow nb 5 1 (.slice A o.length c) o.length (o.map (Value.int .u8))
 win : wr.ownsRow nb 5 1 (.slice A4 wl.length c4) wl.length (wl.map (Value.int .u8))
 ne : ∀ k, ownA A4 = some k → ownA A ≠ some k
 bel : Below W.heap.size W wr
 sz : nb ≤ wr.heap.size
 hld : Dep (fun k => W.heap.size ≤ k ∧ k ≠ W.heap.size ∧ k ≠ W.heap.size + 1 ∧ ownA A ≠ some k) wr (BytesAt ha sc.held)
 ok : Drv.Ok (heldL T.L) T.L.nodes.length sc
 len : sc.held.length + en ≤ i
 go : Drv.go (drvM T.L) s0 [yn] = ((Drv.go (drvM T.L) sc (wl.drop i)).1, o ++ (Drv.go (drvM T.L) sc (wl.drop i)).2)
theorem setRow_below {n : Nat} {W W' : World} (h : Below n W W') {rb : Nat} (hr : n ≤ rb) (C : Array Value) : Below n W (W'.setRow rb C) := h.trans ⟨rfl, rfl, rfl, by simp [World.setRow], fun k hk => setRow_other _ _ _ _ (by omega)⟩
theorem setCell_below {n : Nat} {W W' : World} (h : Below n W W') {rb : Nat} (hr : n ≤ rb) (i : Nat) (v : Value) : Below n W (W'.setCell ⟨rb, i, none⟩ v) := h.setCell (p := ⟨rb, i, none⟩) hr v
theorem take_st (hN : Nat) : ∀ (W : World) (cs : Array Value) (T : TabI) (s : Drv.S) (cl : Bool) (ha : Option Addr) (hc : Nat) (x : Int), s.held.length = hN → Hid (TabC cs T ∧ TabOk T.L ∧ Drv.Ok (heldL T.L) T.L.nodes.length s) → Hid (∀ V, Below W.heap.size W V → TabW T V ∧ BytesAt ha s.held V) → Hid (0 ≤ x ∧ x < 256) →
  Calls Tryz.prog 104 #[.agg (rdC cs s.node ha hc s.held cl s.rej), .int .u8 x] W (RetTk cs T s cl x W) := by
 induction hN using Nat.strongRecOn with
 | ind hN ih =>
 intro W cs T s cl ha hc x hn HT HG HX
 have IH := Lh ih
 clear ih
 have hs : cs.size = 259 := HT.out.1.size
 have HN := Lh hn
 obtain ⟨z, hz⟩ : ∃ z, z = zeroR := ⟨_, rfl⟩
 have HZ : Hid ((Tryz.prog.info? 81).map (fun i => i.zero) = some (some (.agg z))) := Lh (by rw [hz]; exact info_refZ)
 have HZS : Hid (z.size = 263) := Lh (by rw [hz]; exact zeroR_size)
 clear hz hn
 obtain ⟨wa, hwa⟩ : ∃ y, W.alloc (.cells (rdC cs s.node ha hc s.held cl s.rej) 81) = y := ⟨_, rfl⟩
 obtain ⟨wb, hwb⟩ : ∃ y, wa.alloc (.cells z 81) = y := ⟨_, rfl⟩
 have hsa : wa.heap.size = W.heap.size + 1 := by rw [← hwa]; simp
 have hsb : wb.heap.size = W.heap.size + 2 := by rw [← hwb]; simp [hsa]
 have HBA : Hid (Below W.heap.size W wa) := Lh (by rw [← hwa]; exact (Below.refl _ _).alloc (Nat.le_refl _) _)
 have HBB : Hid (Below W.heap.size W wb) := Lh (by rw [← hwb]; exact HBA.out.alloc (by omega) _)
 have HRB : Hid (RdB (W.heap.size + 1) z wb) := Lh (by rw [← hsa, ← hwb]; exact heap_alloc_new wa _)
 have HTB : Hid (RdB W.heap.size (rdC cs s.node ha hc s.held cl s.rej) wb) := Lh (by
  have h1 : wa.heap[W.heap.size]? = some (.cells (rdC cs s.node ha hc s.held cl s.rej) 81 (0, 0)) := by rw [← hwa]; exact heap_alloc_new W _
  rw [← hwb]
  exact (Below.heap_alloc _ _ _ (by omega)).trans h1)
 obtain ⟨C0, hC0⟩ : ∃ y, rdC cs s.node ha hc s.held cl s.rej = y := ⟨_, rfl⟩
 have c262 := HTB.out.cRj hs
 rw [hC0] at hwa ⊢
 have HC0 := Lh hC0
 have HC0S : Hid (C0.size = 263 ∧ C0.all (·.oneCell') = true) := Lh (by rw [← hC0]; exact ⟨rdC_size hs, rdC_one HT.out.1⟩)
 have HI : Hid ((Tryz.prog.info? 81).map (·.size) = some C0.size) := Lh (by rw [HC0S.out.1]; exact info_refS)
 have HOL : Hid (z.size = C0.size) := Lh (by rw [HC0S.out.1, HZS.out])
 have HTB0 : Hid (RdB W.heap.size C0 wb) := Lh (by rw [← hC0]; exact HTB.out)
 have HSZ : Hid (wa.heap.size = W.heap.size + 1 ∧ wb.heap.size = W.heap.size + 2) := Lh ⟨hsa, hsb⟩
 clear hC0 hsb
 go_enter Tryz.func104, Tryz.ntmps104
 rcases hrj : s.rej with _ | _
 case true =>
  rw [hrj] at c262
  have HRJ := Lh hrj
  have HE : Hid (Drv.go (drvM T.L) s [x] = (s, [])) := Lh (Drv.go_rej _ _ hrj _)
  clear hrj
  have hsw : W.heap.size + 1 = wa.heap.size := hsa.symm
  clear hsa
  go_wp2_with (first
   | (refine wpList_allocZ rfl 81 rfl z HZ.out ?_)
   | (refine wpList_load_row rfl 81 _ rfl W.heap.size rfl _ C0 _ _ HTB0.out Tryz.underlying81 rfl HI.out ?_)
   | (refine wpList_store_row rfl 81 _ _ rfl wa.heap.size C0 rfl rfl 81 z (by rw [← hsw]; exact HRB.out) HI.out HOL.out HC0S.out.2 ?_))
  refine tk_end (v := .slice none 0 0) rfl rfl rfl (by rw [← hsw]; exact HRB.out) HC0S.out.1 ⟨none, 0, ha, hc, ?_, Lh (setRow_below HBB.out (by omega) _), Lh ?_, Lh fun V _ => ?_⟩
  ·rw [HE.out]
   show _ = Ending.returned (.tuple #[.agg (rdC cs s.node ha hc s.held cl s.rej), .slice none 0 0])
   rw [HC0.out]
  ·rw [HE.out]; exact World.ownsRow_nil _ _ _ _
  ·rw [HE.out]
   show BytesAt ha s.held V
   rw [show s.held = [] from by rw [HT.out.2.2.rej HRJ.out]; rfl]
   exact BytesAt.nil_ _ _
 rw [hrj] at c262
 have HRJ := Lh hrj
 clear hrj
 obtain ⟨yn, hyn⟩ := Int.eq_ofNat_of_zero_le HX.out.1
 subst hyn
 have hyl : yn < 256 := by have := HX.out.2; omega
 obtain ⟨cy, hcy2⟩ : ∃ c, T.cls[yn]? = some c := ⟨_, List.getElem?_eq_getElem (by rw [HT.out.1.ln]; exact hyl)⟩
 have hcb := HT.out.1.u8 cy (List.mem_of_getElem? hcy2)
 obtain ⟨cn, hcn⟩ := Int.eq_ofNat_of_zero_le hcb.1
 have hnl : s.node < T.ns.length := by have := HT.out.2.2.lt; rwa [nodesL_len] at this
 obtain ⟨nb, noff, n, hnA, hnx, hnw, -, m1, -⟩ := (HG.out wb HBB.out).1.nodes.at_ hnl
 have hLn : T.L.nodes[s.node]? = some n.L := nodesL_at hnx
 have hcls : clsL T.L yn = cn := by
  unfold clsL
  rw [Int.toNat_natCast]
  show (T.cls.getD yn 0).toNat = cn
  rw [List.getD_eq_getElem?_getD, hcy2, Option.getD_some, hcn, Int.toNat_natCast]
 obtain ⟨hnxt, hnok⟩ := nxtL_ok HT.out.2.1 hLn yn
 rw [hcls] at hnxt
 obtain ⟨nx2, hnxv⟩ : ∃ y, nxtL T.L s.node yn = y := ⟨_, rfl⟩
 rw [hnxv] at hnxt hnok
 have hnxt' : n.nx[cn]? = some nx2 := hnxt
 have hcnl := (List.getElem?_eq_some_iff.1 hnxt').1
 obtain ⟨ib, ioff, nx3, hiA, hix, -, hic⟩ := hnw.2.at_ hcnl
 obtain rfl : nx3 = nx2 := by rw [hnxt'] at hix; injection hix with h; exact h.symm
 have d256 := HTB.out.cell (rdC_lo HT.out.1.c1)
 have d259 := HTB.out.cNode hs
 have d260 := HTB.out.cHeld hs
 have dcl := HTB.out.cell (rdC_lo (HT.out.1.cl yn cy hcy2))
 rw [hnA] at d256
 rw [hiA] at m1
 subst hcn
 have HNX := Lh hnxv
 have HNO := Lh hnok
 have HLN := Lh hLn
 have hnode : (s.node : Int) < (T.ns.length : Int) := by omega
 have hcni : (cn : Int) < (n.nx.length : Int) := by omega
 have hyi : (yn : Int) < 256 := by omega
 have hh4 : s.held.length ≤ 4 := drv_len HT.out.2.1 HT.out.2.2
 have HSL : Hid (Sl wb 1 ha s.held.length (s.held.map (Value.int .u8))) := Lh (by
  have h := (HG.out wb HBB.out).2.sl
  rwa [← List.map_eq_flatMap] at h)
 have HU := Lh (HG.out wb HBB.out).2.u8
 obtain ⟨i0, hi, hz0, hz1, hz2⟩ := info_parts infoByteD
 have h63 : 0 + s.held.length ≤ maxLen := by unfold maxLen; omega
 have hby : (0 + s.held.length) * 1 ≤ 140737488355328 := by omega
 have hl40 : s.held.length < 1099511627776 := by omega
 clear hcy2 hcb hnA hnx hnw hLn hcls hnxt hnok hnxv hnxt' hiA hix
 go_wp2_with (refine wpList_allocZ rfl 81 rfl z HZ.out ?_)
 (try rw [hwb])
 go_quiet (fail)
 clear d256 d259 dcl m1 hic
 have d260' : ∀ q, (wb.drewN q).cell? ⟨W.heap.size, 260, none⟩ = some (.slice ha s.held.length hc) := fun q => d260
 go_upto_region 7 with (first
  | (at_builtin; refine wpList_append_slN _ rfl (.tmp 30) (.tmp 32) 79 rfl wb.heap.size 5 i0 _ 1 1 Tryz.underlying79 hi hz0 hz1 hz2 rfl (by decide) (World.ownsRow_nil _ _ _ _) rfl (Sl.drewN HSL.out _) rfl (bytes_one s.held) h63 hby (Nat.le_refl _) ?_; intro A2 c2 w2 HO2 HG2 HN2; (rw [Nat.zero_add] at HO2 ⊢); (have HB2 : Hid (Below wb.heap.size wb w2) := Lh ((below_drewN (Below.refl _ wb) _).grown HG2.out (Nat.le_refl _) (fun k hk => by cases hk))))
  | (at_builtin; go_must (refine wpList_pushG rfl (.tmp 34) (.tmp 36) 79 rfl wb.heap.size 5 i0 _ 1 1 Tryz.underlying79 hi hz0 hz1 hz2 rfl (by decide) HO2.out rfl [.int .u8 (yn : Int)] 5 rfl rfl (by simp [Value.oneCell']) hl40 (by decide) HB2.out.size ?_); intro A4 c4 w4 HO4x HG4 HN4))
 obtain ⟨wl, hwl⟩ : ∃ y, s.held ++ [(yn : Int)] = y := ⟨_, rfl⟩
 have hwn : wl.length = s.held.length + 1 := by rw [← hwl]; simp
 have hwn2 : s.held.length + 1 = wl.length := hwn.symm
 have HO4 : Hid (w4.ownsRow wb.heap.size 5 1 (.slice A4 wl.length c4) wl.length (wl.map (Value.int .u8))) := Lh (by
  have h := HO4x.out
  rw [List.nil_append, hwn2] at h
  rw [← hwl, List.map_append]
  rw [← hwl] at h
  exact h)
 rw [hwn2]
 have HB4 : Hid (Below wb.heap.size wb w4) := Lh ((HB2.out.alloc HB2.out.size _).grown HG4.out (by simp; have := HB2.out.size; omega) (fun j hj => (own_ty HO2.out hj).1))
 have HUW : Hid (U8s wl) := Lh fun x hx => by
  rw [← hwl] at hx
  rcases List.mem_append.1 hx with h | h
  ·exact HU.out x h
  ·rw [List.mem_singleton] at h; subst h; omega
 have HWL := Lh hwl
 have HWN := Lh hwn
 have hl5 : wl.length ≤ 5 := by omega
 have HB4W : Hid (Below W.heap.size W w4) := Lh (HBB.out.trans (HB4.out.mono HBB.out.size))
 have HT4 : Hid (RdB W.heap.size (rdC cs s.node ha hc s.held cl false) w4) := Lh (by
  have h := HTB.out.keep (HB4.out.block _ HTB.out.lt)
  rwa [HRJ.out] at h)
 have HR4 : Hid (RdB (W.heap.size + 1) z w4) := Lh (HRB.out.keep (HB4.out.block _ HRB.out.lt))
 have HLT : Hid (W.heap.size + 1 < wb.heap.size ∧ wb.heap.size ≤ w4.heap.size) := Lh ⟨HRB.out.lt, HB4.out.size⟩
 have HOK := Lh (Drv.Ok.step (drv_right HT.out.2.1) HT.out.2.2 (yn : Int))
 have HGo : Hid (Drv.go (drvM T.L) s [(yn : Int)] = ((Drv.go (drvM T.L) (Drv.step (drvM T.L) s yn).1 ((Drv.step (drvM T.L) s yn).2.2 ++ [])).1, (Drv.step (drvM T.L) s yn).2.1 ++ (Drv.go (drvM T.L) (Drv.step (drvM T.L) s yn).1 ((Drv.step (drvM T.L) s yn).2.2 ++ [])).2)) := Lh (Drv.go_cons _ _ HRJ.out _ _)
 clear hwl hwn hwn2 HO4x HO2 HB2 HG2 HG4 HN2 HN4 d260 d260' c262 hi hz0 hz1 hz2 HU
 by_cases h0 : 0 ≤ nx3
 ·obtain ⟨nx, rfl⟩ := Int.eq_ofNat_of_zero_le h0
  have HST : Drv.step (drvM T.L) s yn = (⟨nx, wl, false⟩, [], []) := by
   unfold Drv.step
   rw [show (drvM T.L).nxt s.node yn = (nx : Int) from HNX.out, if_pos h0, Int.toNat_natCast, HWL.out]
  rw [HST] at HGo HOK
  have HE : Hid (Drv.go (drvM T.L) s [(yn : Int)] = (⟨nx, wl, false⟩, [])) := Lh (by rw [HGo.out]; simp [Drv.go_nil])
  have f1 := HT4.out.fz 259
  have c1 := HT4.out.cNode hs
  have b2 := HT4.out.setNode hs (nx : Int)
  have c2' := b2.cHeld hs
  have f2 := b2.fz 260
  have HB3 := Lh (b2.setHeld hs A4 c4 wl)
  obtain ⟨C2, hC2⟩ : ∃ y, rdC cs nx A4 c4 wl cl false = y := ⟨_, rfl⟩
  rw [hC2] at HB3
  have HC2 := Lh hC2
  have HC2S : Hid (C2.size = 263 ∧ C2.all (·.oneCell') = true) := Lh (by rw [← hC2]; exact ⟨rdC_size hs, rdC_one HT.out.1⟩)
  have HI2 : Hid ((Tryz.prog.info? 81).map (·.size) = some C2.size) := Lh (by rw [HC2S.out.1]; exact info_refS)
  have HOL2 : Hid (z.size = C2.size) := Lh (by rw [HC2S.out.1, HZS.out])
  have HR5 : Hid (RdB (W.heap.size + 1) z ((w4.setCell ⟨W.heap.size, 259, none⟩ (.int .i64 (nx : Int))).setCell ⟨W.heap.size, 260, none⟩ (.slice A4 wl.length c4))) := Lh (HR4.out.keep (by rw [heap_setCell_other _ _ _ _ (by show W.heap.size + 1 ≠ W.heap.size; omega), heap_setCell_other _ _ _ _ (by show W.heap.size + 1 ≠ W.heap.size; omega)]))
  clear b2 hC2
  go_wp2_with (first
   | (refine wpList_load_row rfl 81 _ rfl W.heap.size rfl _ C2 _ _ HB3.out Tryz.underlying81 rfl HI2.out ?_)
   | (refine wpList_store_row rfl 81 _ _ rfl (W.heap.size + 1) C2 rfl rfl 81 z HR5.out HI2.out HOL2.out HC2S.out.2 ?_))
  refine tk_end (v := .slice none 0 0) rfl rfl rfl HR5.out HC2S.out.1 ⟨none, 0, A4, c4, ?_, Lh (setRow_below (setCell_below (setCell_below HB4W.out (Nat.le_refl _) _ _) (Nat.le_refl _) _ _) (by omega) _), Lh ?_, Lh ?_⟩
  ·rw [HE.out]
   show _ = Ending.returned (.tuple #[.agg (rdC cs nx A4 c4 wl cl false), .slice none 0 0])
   rw [HC2.out]
  ·rw [HE.out]; exact World.ownsRow_nil _ _ _ _
  ·rw [HE.out]
   intro V hV
   refine bytes_own HO4.out HUW.out (by omega) V fun k hk => ?_
   obtain ⟨q1, q2, -⟩ := own_ty HO4.out hk
   have q3 := HLT.out
   rw [hV k (by omega) (by simp [World.setRow]; omega), setRow_other _ _ _ _ (by omega), heap_setCell_other _ _ _ _ (by show k ≠ W.heap.size; omega), heap_setCell_other _ _ _ _ (by show k ≠ W.heap.size; omega)]
 by_cases h1 : nx3 = -1
 ·subst h1
  have HST : Drv.step (drvM T.L) s yn = (Drv.rejd, [], []) := by
   unfold Drv.step
   rw [show (drvM T.L).nxt s.node yn = (-1 : Int) from HNX.out, if_neg (by omega), if_pos rfl]
  rw [HST] at HGo HOK
  have HE : Hid (Drv.go (drvM T.L) s [(yn : Int)] = (Drv.rejd, [])) := Lh (by rw [HGo.out, Drv.go_rej _ _ rfl]; simp)
  have f1 := HT4.out.fz 262
  have c1 := HT4.out.cRj hs
  have b2 := HT4.out.setRj hs true
  have f2 := b2.fz 259
  have c2' := b2.cNode hs
  have b3 := b2.setNode hs 0
  have f3 := b3.fz 260
  have c3' := b3.cHeld hs
  have HB3 := Lh (b3.setHeld hs none 0 [])
  obtain ⟨C2, hC2⟩ : ∃ y, rdC cs 0 none 0 [] cl true = y := ⟨_, rfl⟩
  rw [hC2] at HB3
  have HC2 := Lh hC2
  have HC2S : Hid (C2.size = 263 ∧ C2.all (·.oneCell') = true) := Lh (by rw [← hC2]; exact ⟨rdC_size hs, rdC_one HT.out.1⟩)
  have HI2 : Hid ((Tryz.prog.info? 81).map (·.size) = some C2.size) := Lh (by rw [HC2S.out.1]; exact info_refS)
  have HOL2 : Hid (z.size = C2.size) := Lh (by rw [HC2S.out.1, HZS.out])
  have HR5 : Hid (RdB (W.heap.size + 1) z (((w4.setCell ⟨W.heap.size, 262, none⟩ (.bool true)).setCell ⟨W.heap.size, 259, none⟩ (.int .i64 0)).setCell ⟨W.heap.size, 260, none⟩ (.slice none 0 0))) := Lh (HR4.out.keep (by rw [heap_setCell_other _ _ _ _ (by show W.heap.size + 1 ≠ W.heap.size; omega), heap_setCell_other _ _ _ _ (by show W.heap.size + 1 ≠ W.heap.size; omega), heap_setCell_other _ _ _ _ (by show W.heap.size + 1 ≠ W.heap.size; omega)]))
  clear b2 b3 hC2
  go_wp2_with (first
   | (refine wpList_load_row rfl 81 _ rfl W.heap.size rfl _ C2 _ _ HB3.out Tryz.underlying81 rfl HI2.out ?_)
   | (refine wpList_store_row rfl 81 _ _ rfl (W.heap.size + 1) C2 rfl rfl 81 z HR5.out HI2.out HOL2.out HC2S.out.2 ?_))
  refine tk_end (v := .slice none 0 0) rfl rfl rfl HR5.out HC2S.out.1 ⟨none, 0, none, 0, ?_, Lh (setRow_below (setCell_below (setCell_below (setCell_below HB4W.out (Nat.le_refl _) _ _) (Nat.le_refl _) _ _) (Nat.le_refl _) _ _) (by omega) _), Lh ?_, Lh ?_⟩
  ·rw [HE.out]
   show _ = Ending.returned (.tuple #[.agg (rdC cs 0 none 0 [] cl true), .slice none 0 0])
   rw [HC2.out]
  ·rw [HE.out]; exact World.ownsRow_nil _ _ _ _
  ·rw [HE.out]
   exact fun V _ => BytesAt.nil_ _ _
 have hno := HNO.out
 obtain ⟨hx2, al, hal, hea, hto⟩ : nx3 ≤ -2 ∧ ∃ a, T.L.acts[(-2 - nx3).toNat]? = some a ∧ a.eat ≤ n.L.held + 1 ∧ TermsOk (n.L.held + 1) a.out := by
  rcases hno with h | ⟨_, ⟨h, _⟩ | ⟨h, a, q1, q2, q3⟩⟩
  ·exact absurd h h1
  ·exact absurd h h0
  ·exact ⟨h, a, q1, q2, q3⟩
 obtain ⟨an, han⟩ : ∃ an : Nat, -2 - nx3 = (an : Int) := Int.eq_ofNat_of_zero_le (by omega)
 rw [han, Int.toNat_natCast] at hal
 have hl : an < T.acts.length := by have h := (List.getElem?_eq_some_iff.1 hal).1; rwa [show T.L.acts = T.acts.map ActI.L from rfl, List.length_map] at h
 obtain ⟨ab, aoff, a, haA, hai, haw, g0, g1, g2⟩ := (HG.out w4 HB4W.out).1.acts.at_ hl
 have hae : al = a.L := by
  rw [show T.L.acts = T.acts.map ActI.L from rfl, List.getElem?_map, hai] at hal
  injection hal with h; exact h.symm
 subst hae
 have e257 := HT4.out.cell (rdC_lo HT.out.1.c2)
 rw [haA] at e257
 have hal4 : T.acts.length ≤ 4096 := by have h := HT.out.2.1.head.2.1; rwa [show T.L.acts = T.acts.map ActI.L from rfl, List.length_map] at h
 have hani : (an : Int) < (T.acts.length : Int) := by omega
 have HTA := Lh hto
 have HAI := Lh hai
 have HAL := Lh hal
 have HEA := Lh hea
 have hsb : IntKind.i64.wrap (-2 - nx3) = (an : Int) := by rw [han]; simp [IntKind.wrap, IntKind.signed, IntKind.bits]; omega
 have hak := HT.out.2.1.acts a.L (List.mem_map.2 ⟨a, List.mem_of_getElem? hai, rfl⟩)
 have hn64 : a.o.l.length ≤ 64 := by have h := hak.2.2.2.2; rwa [show a.L.out = a.o.l.map TermI.L from rfl, List.length_map] at h
 have HAK := Lh hak
 clear hno hal haA hai haw hea hto hak
 go_upto_region 17 with fail
 obtain ⟨w5, hw5⟩ : ∃ y, w4.alloc (.cells #[.int .i64 a.e, .int .i64 a.d, .slice a.o.a a.o.l.length a.o.c] 59) = y := ⟨_, rfl⟩
 rw [hw5]
 have hbe : Below w4.heap.size w4 w5 := by rw [← hw5]; exact (Below.refl _ _).alloc (Nat.le_refl _) _
 have hxx : w5.heap[w4.heap.size]? = some (.cells #[.int .i64 a.e, .int .i64 a.d, .slice a.o.a a.o.l.length a.o.c] 59 (0, 0)) := by rw [← hw5]; exact heap_alloc_new w4 _
 have HXX := Lh hxx
 have y2 : w5.cell? ⟨w4.heap.size, 2, none⟩ = some (.slice a.o.a a.o.l.length a.o.c) := by simp [World.cell?, hxx]
 have HBE := Lh hbe
 have HB5W : Hid (Below W.heap.size W w5) := Lh (HB4W.out.trans (hbe.mono HB4W.out.size))
 have HG5 : Hid (∀ V, Below w5.heap.size w5 V → TermsAt a.o.a a.o.l V ∧ BytesAt A4 wl V) := Lh fun V hV =>
  ⟨((HG.out V (HB5W.out.trans (hV.mono HB5W.out.size))).1.acts.it a (List.mem_of_getElem? HAI.out)).2, bytes_own HO4.out HUW.out (by omega) V fun k hk => by
   obtain ⟨q1, q2, -⟩ := own_ty HO4.out hk
   exact (hV.block k (Nat.lt_of_lt_of_le q2 HBE.out.size)).trans (HBE.out.block k q2)⟩
 have HNT : Hid (∀ t ∈ a.o.l, NumsOk t.L) := Lh fun t ht => (HTA.out t.L (List.mem_map.2 ⟨t, ht, rfl⟩)).1
 obtain ⟨o6, ho6⟩ : ∃ y, wrB a.o.L wl = y := ⟨_, rfl⟩
 have HO6E := Lh ho6
 have hrw := rwrite_st w5 a.o c4 HG5 HNT (by omega) (by omega)
 rw [ho6] at hrw
 have HO6N : Hid (o6.length ≤ 64) := Lh (by
  rw [← ho6]
  have h1 := wrB_len a.o.L wl
  have h2 : a.o.L.length = a.o.l.length := List.length_map _
  omega)
 have hl5' : w4.heap.size < w5.heap.size := (Array.getElem?_eq_some_iff.1 hxx).1
 have HS5 : Hid (w4.heap.size < w5.heap.size) := Lh hl5'
 clear hbe hxx hw5 ho6 hl5' g0 g1 g2 e257
 go_wp2_with fail
 refine hrw.mono ?_
 clear hrw
 rintro e w6 ⟨A6, c6, rfl, HO6, HB6⟩
 obtain ⟨en, hen⟩ : ∃ en : Nat, a.e = (en : Int) := Int.eq_ofNat_of_zero_le (by have h := HAK.out.1; have : a.L.eat = a.e := rfl; omega)
 have hen1 : 1 ≤ en := by have h := HAK.out.1; have : a.L.eat = a.e := rfl; omega
 have HHL : n.L.held = (s.held.length : Int) := by
  have q1 := HT.out.2.2.held
  have q2 := (HT.out.2.1.nodes n.L (List.mem_of_getElem? HLN.out)).1.1
  unfold heldL at q1
  rw [HLN.out] at q1
  simp only at q1
  omega
 have hen2 : en ≤ wl.length := by
  have h := HEA.out
  have : a.L.eat = a.e := rfl
  have := HWN.out
  omega
 obtain ⟨dn, hdn⟩ : ∃ dn : Nat, a.d = (dn : Int) := Int.eq_ofNat_of_zero_le HAK.out.2.2.1
 have HST : Drv.step (drvM T.L) s yn = (⟨dn, [], false⟩, o6, wl.drop en) := by
  have e1 : (-2 - nx3).toNat = an := by omega
  have e2 : actL T.L an = a.L := actL_at HAL.out
  have e3 : (drvM T.L).dst an = dn := by show (actL T.L an).dest.toNat = dn; rw [e2]; show a.d.toNat = dn; omega
  have e4 : (drvM T.L).eat an = en := by show (actL T.L an).eat.toNat = en; rw [e2]; show a.e.toNat = en; omega
  have e5 : ∀ w, (drvM T.L).wr an w = wrB a.o.L w := fun w => by show wrB (actL T.L an).out w = _; rw [e2]; rfl
  unfold Drv.step
  rw [show (drvM T.L).nxt s.node yn = nx3 from HNX.out, if_neg (by omega), if_neg h1, e1, e3, e4, e5, HWL.out, HO6E.out, Nat.max_eq_right hen1]
 rw [HST] at HGo HOK
 have h6 : w6.heap[w4.heap.size]? = some (.cells #[.int .i64 a.e, .int .i64 a.d, .slice a.o.a a.o.l.length a.o.c] 59 (0, 0)) := (HB6.out.block _ HS5.out).trans HXX.out
 rw [hen, hdn] at h6
 have HX6 := Lh h6
 have HLT4 : W.heap.size + 1 < w4.heap.size := by have := HLT.out; omega
 have z1 : w6.cell? ⟨w4.heap.size, 1, none⟩ = some (.int .i64 dn) := by simp [World.cell?, h6]
 have HB46 : Hid (Below w4.heap.size w4 w6) := Lh (HBE.out.trans (HB6.out.mono HBE.out.size))
 have HT6 : Hid (RdB W.heap.size (rdC cs s.node ha hc s.held cl false) w6) := Lh (HT4.out.keep (HB46.out.block _ HT4.out.lt))
 have f1 := HT6.out.fz 259
 have p1 := HT6.out.cNode hs
 have b2 := HT6.out.setNode hs (dn : Int)
 have p2 := b2.cHeld hs
 have f2 := b2.fz 260
 obtain ⟨w7, hw7⟩ : ∃ y, (w6.setCell ⟨W.heap.size, 259, none⟩ (.int .i64 (dn : Int))).setCell ⟨W.heap.size, 260, none⟩ (.slice none 0 0) = y := ⟨_, rfl⟩
 have hst : ∀ k, k ≠ W.heap.size → w7.heap[k]? = w6.heap[k]? := fun k hk => by
  rw [← hw7, heap_setCell_other _ _ _ _ hk, heap_setCell_other _ _ _ _ hk]
 have hs7 : w7.heap.size = w6.heap.size := by rw [← hw7]; simp
 have HT7 : Hid (RdB W.heap.size (rdC cs dn none 0 [] cl false) w7) := Lh (by rw [← hw7]; exact b2.setHeld hs none 0 [])
 have z0 : w7.cell? ⟨w4.heap.size, 0, none⟩ = some (.int .i64 en) := by
  have h := (hst w4.heap.size (by omega)).trans h6
  simp [World.cell?, h]
 have HI0 : Hid (TkI cs T cl s yn z W wb.heap.size A4 c4 wl en en ⟨dn, [], false⟩ none 0 A6 c6 o6 w7) := Lh (by
  have q := HLT.out
  have q5 := HS5.out
  have q6 := HB6.out.size
  refine ⟨HT7.out, ?_, ?_, ?_, fun k hk e => ?_, ?_, by omega, fun V _ => BytesAt.nil_ _ _, HOK.out, by simp, by rw [HGo.out]; simp⟩
  ·exact (HR4.out.keep (HB46.out.block _ HR4.out.lt)).keep (hst _ (by omega))
  ·exact own_keep (own_mono HO6.out (by omega)) fun k hk => hst k (by have := (own_ty HO6.out hk).1; omega)
  ·exact own_keep (own_keep HO4.out fun k hk => HB46.out.block k (own_ty HO4.out hk).2.1) fun k hk => hst k (by have := (own_ty HO4.out hk).1; omega)
  ·have := (own_ty HO4.out hk).2.1; have := (own_ty HO6.out e).1; omega
  ·rw [← hw7]; exact setCell_below (setCell_below (HB5W.out.trans (HB6.out.mono HB5W.out.size)) (Nat.le_refl _) _ _) (Nat.le_refl _) _ _)
 clear b2 h6 hst hs7 HGo HOK HST HXX HX6 HTA HAI HAL HEA HAK HG5 HNT HO6E hen hdn HHL hsb hani hal4 hn64 HLT4
 go_wp2_with fail
 (try rw [hw7])
 go_loopw [9, 10] (fun ov iv wr => ∃ (i : Nat) (sc : Drv.S) (hak : Option Addr) (hck : Nat) (A : Option Addr) (c : Nat) (o : List Int), i ≤ wl.length ∧ en ≤ i ∧ iv = .int .i64 i ∧ ov = .slice A o.length c ∧ o.length ≤ 64 + 320 * i ∧ Hid (TkI cs T cl s yn z W wb.heap.size A4 c4 wl en i sc hak hck A c o wr)) (fun _ iv _ => wl.length - (intOf iv).toNat)
 case atStart => exact ⟨en, ⟨dn, [], false⟩, none, 0, A6, c6, o6, hen2, Nat.le_refl _, rfl, rfl, by have := HO6N.out; omega, HI0⟩
 case round =>
 clear HI0 z0 z1 y2 f1 f2 p1 p2 HT7 HT6 HB6 HO6 HB46 hw7
 obtain ⟨i, sc, hak, hck, A, c, o, hi1, hi2, rfl, rfl, hol, HIr⟩ := hrel
 obtain ⟨C2, hC2⟩ : ∃ y, rdC cs sc.node hak hck sc.held cl sc.rej = y := ⟨_, rfl⟩
 have HC2 := Lh hC2
 have HC2S : Hid (C2.size = 263 ∧ C2.all (·.oneCell') = true) := Lh (by rw [← hC2]; exact ⟨rdC_size hs, rdC_one HT.out.1⟩)
 have HI2 : Hid ((Tryz.prog.info? 81).map (·.size) = some C2.size) := Lh (by rw [HC2S.out.1]; exact info_refS)
 have HBX : Hid (RdB W.heap.size C2 wr) := Lh (by rw [← hC2]; exact HIr.out.box)
 clear hC2
 by_cases hlt : i < wl.length
 case neg =>
  have hd1 : decide ((i : Int) < (wl.length : Int)) = false := by simp; omega
  have hd2 : ¬ (i : Int) < (wl.length : Int) := by omega
  have HE : Hid (Drv.go (drvM T.L) s [(yn : Int)] = (sc, o)) := Lh (by
   rw [HIr.out.go, List.drop_eq_nil_of_le (by omega), Drv.go_nil]; simp)
  have HOL2 : Hid (z.size = C2.size) := Lh (by rw [HC2S.out.1, HZS.out])
  have HRS : Hid (RdB (W.heap.size + 1) z wr) := Lh HIr.out.res
  go_wp2_with (first
   | (refine wpList_load_row rfl 81 _ rfl W.heap.size rfl _ C2 _ _ HBX.out Tryz.underlying81 rfl HI2.out ?_)
   | (refine wpList_store_row rfl 81 _ _ rfl (W.heap.size + 1) C2 rfl rfl 81 z HRS.out HI2.out HOL2.out HC2S.out.2 ?_))
  refine tk_end (v := .slice A o.length c) rfl rfl rfl HRS.out HC2S.out.1 ⟨A, c, hak, hck, ?_, Lh (setRow_below HIr.out.bel (by omega) _), Lh ?_, Lh ?_⟩
  ·rw [HE.out]
   show _ = Ending.returned (.tuple #[.agg (rdC cs sc.node hak hck sc.held cl sc.rej), .slice A o.length c])
   rw [HC2.out]
  ·rw [HE.out]
   have q := HLT.out
   exact own_keep (own_mono HIr.out.row (by omega)) fun k hk => setRow_other _ _ _ _ (by have := (own_ty HIr.out.row hk).1; omega)
  ·rw [HE.out]
   intro V hV
   exact HIr.out.hld V fun k hk hl => (hV k hk.1 (by simpa [World.setRow] using hl)).trans (setRow_other _ _ _ _ hk.2.2.1)
 have hlti : (i : Int) < (wl.length : Int) := by omega
 have HWB : Hid (BytesAt A4 wl wr) := Lh (bytes_own HIr.out.win HUW.out (by omega) wr fun _ _ => rfl)
 obtain ⟨b4, f4, x, rfl, hx, hx0, hx1, hcx⟩ := HWB.out.at_ hlt
 obtain ⟨⟨sn, on⟩, hgx⟩ : ∃ y, Drv.go (drvM T.L) sc [x] = y := ⟨_, rfl⟩
 have HGX := Lh hgx
 have HDR : Hid (wl.drop i = x :: wl.drop (i + 1)) := Lh (by
  have h := (List.getElem?_eq_some_iff.1 hx)
  rw [← h.2]; exact List.drop_eq_getElem_cons h.1)
 have HGN : Hid (Drv.go (drvM T.L) s [(yn : Int)] = ((Drv.go (drvM T.L) sn (wl.drop (i + 1))).1, (o ++ on) ++ (Drv.go (drvM T.L) sn (wl.drop (i + 1))).2)) := Lh (by
  rw [HIr.out.go, HDR.out, Drv.go_one, hgx]; simp [List.append_assoc])
 have HOKN : Hid (Drv.Ok (heldL T.L) T.L.nodes.length sn) := Lh (by
  have h := Drv.Ok.go (drv_right HT.out.2.1) sc [x] HIr.out.ok
  rwa [hgx] at h)
 have HLN2 : Hid (sn.held.length + en ≤ i + 1) := Lh (by
  have h := go_held (drvM T.L) sc [x]
  rw [hgx] at h
  have h2 := HIr.out.len
  simp only [List.length_singleton] at h
  omega)
 have HONL : Hid (on.length ≤ 320) := Lh (by
  have h := go_len HT.out.2.1 HIr.out.ok [x]
  rw [hgx] at h
  have h2 : sc.held.length ≤ 4 := drv_len HT.out.2.1 HIr.out.ok
  simp only [List.length_singleton] at h
  omega)
 have HCALL : Hid (Calls Tryz.prog 104 #[.agg C2, .int .u8 x] wr.drew (RetTk cs T sc cl x wr.drew)) := Lh (by
  rw [← HC2.out]
  refine IH.out sc.held.length (by have := HIr.out.len; have := HN.out; have := HWN.out; omega) wr.drew cs T sc cl hak hck x rfl (Lh ⟨HT.out.1, HT.out.2.1, HIr.out.ok⟩) (Lh fun V hV => ?_) (Lh ⟨hx0, hx1⟩)
  have hV2 : Below wr.heap.size wr V := (Below.refl wr.heap.size wr).drew.trans hV
  exact ⟨(HG.out V (HIr.out.bel.trans (hV2.mono HIr.out.bel.size))).1, HIr.out.hld V fun k _ hl => hV2.block k hl⟩)
 have HTBL : Hid (W.heap.size < wr.heap.size) := Lh HIr.out.box.lt
 clear hx hgx HC2
 go_upto_region 24 with fail
 refine wp_region_Y 9 (by kernel_rfl) (fun V => Hid (RdB W.heap.size C2 V) ∧ V.cell? ⟨b4, f4 + i, none⟩ = some (.int .u8 x)) (fun _ => True) ⟨Lh HBX.out, hcx⟩ (fun hHeld => ?_)
 refine wpAnyY_take (i := 0) (v := .agg C2) [9, 10] rfl (by kernel_rfl) (by kernel_rfl) (by kernel_rfl) (by kernel_rfl) (by kernel_rfl) (fun _ _ _ h => h) (Or.inl ⟨by first | kernel_rfl | rfl, ?_⟩) (fun _ _ => trivial) (by assumption) ?_
 ·intro w hSw
  exact exec_load_part 81 (.tmp 2) rfl W.heap.size 0 rfl C2 _ (fun j v h => by rw [Nat.zero_add]; exact hSw.1.out.cell h) Tryz.underlying81 rfl HI2.out
 (try simp only [Act.put, zq1, zq2, zq3, zq4, zq5, zq6])
 refine wpAnyY_take2 (i := 1) (v := ?_) rfl (by kernel_rfl) (by kernel_rfl) (by kernel_rfl) (by kernel_rfl) (fun _ _ _ h => h) (Or.inl ⟨by first | kernel_rfl | rfl, ?_⟩) (fun _ _ => trivial) (by assumption) ?_
 rotate_left
 ·intro w hSw; (try dsimp only at hSw); go_simp; (try with_reducible rfl)
 (try simp only [Act.put, zq1, zq2, zq3, zq4, zq5, zq6])
 refine wpAnyY_take2 (i := 2) (v := ?_) rfl (by kernel_rfl) (by kernel_rfl) (by kernel_rfl) (by kernel_rfl) (fun _ _ _ h => h) (Or.inl ⟨by first | kernel_rfl | rfl, ?_⟩) (fun _ _ => trivial) (by assumption) ?_
 rotate_left
 ·intro w hSw; (try dsimp only at hSw); go_simp; (try with_reducible rfl)
 (try simp only [Act.put, zq1, zq2, zq3, zq4, zq5, zq6])
 refine wpAnyY_take2 (i := 3) (v := ?_) rfl (by kernel_rfl) (by kernel_rfl) (by kernel_rfl) (by kernel_rfl) (fun _ _ _ h => h) (Or.inl ⟨by first | kernel_rfl | rfl, ?_⟩) (fun _ _ => trivial) (by assumption) ?_
 rotate_left
 ·intro w hSw; (try dsimp only at hSw); go_simp; (try with_reducible rfl)
 (try simp only [Act.put, zq1, zq2, zq3, zq4, zq5, zq6])
 refine wpAnyY_take (i := 4) (v := ?_) [9, 10] rfl (by kernel_rfl) (by kernel_rfl) (by kernel_rfl) (by kernel_rfl) (by kernel_rfl) (fun _ _ _ h => h) (Or.inl ⟨by first | kernel_rfl | rfl, ?_⟩) (fun _ _ => trivial) (by assumption) ?_
 rotate_left
 ·intro w hSw; (try dsimp only at hSw); go_simp; (try with_reducible rfl)
 (try simp only [Act.put, zq1, zq2, zq3, zq4, zq5, zq6])
 refine wpAnyY_ready (i := 5) (by kernel_rfl) rfl (fun _ _ => trivial) (fun K hK => ?_)
 go_simp
 refine HCALL.out.mono ?_
 rintro e w6 ⟨An, cx, hxa, hxc, rfl, HB6, HO6, HD6⟩
 rw [HGX.out] at HO6 HD6
 rw [HGX.out]
 simp only at HO6 HD6 ⊢
 obtain ⟨C3, hC3⟩ : ∃ y, rdC cs sn.node hxa hxc sn.held cl sn.rej = y := ⟨_, rfl⟩
 rw [hC3]
 have HC3 := Lh hC3
 have HC3S : Hid (C3.size = 263 ∧ C3.all (·.oneCell') = true) := Lh (by rw [← hC3]; exact ⟨rdC_size hs, rdC_one HT.out.1⟩)
 have HI3 : Hid ((Tryz.prog.info? 81).map (·.size) = some C3.size) := Lh (by rw [HC3S.out.1]; exact info_refS)
 have HOL3 : Hid (C2.size = C3.size) := Lh (by rw [HC2S.out.1, HC3S.out.1])
 have HBR : Hid (Below wr.heap.size wr w6) := Lh ((Below.refl wr.heap.size wr).drew.trans HB6.out)
 have HBX6 : Hid (RdB W.heap.size C2 w6) := Lh (HBX.out.keep (HBR.out.block _ HTBL.out))
 have hc6 : w6.cell? ⟨b4, f4 + i, none⟩ = some (.int .u8 x) := (HBR.out.cell (lt_of_cell hcx)).trans hcx
 clear hC3 HCALL
 refine hK.out _ _ (⟨Lh HBX6.out, hc6⟩) (fun hHeld => ?_)
 clear hK K
 (try simp only [Act.put, zq1, zq2, zq3, zq4, zq5, zq6])
 refine wpAnyY_take2 (i := 6) (v := ?_) rfl (by kernel_rfl) (by kernel_rfl) (by kernel_rfl) (by kernel_rfl) (fun _ _ _ h => h) (Or.inl ⟨by first | kernel_rfl | rfl, ?_⟩) (fun _ _ => trivial) (by assumption) ?_
 rotate_left
 ·intro w hSw; (try dsimp only at hSw); go_simp; (try with_reducible rfl)
 (try simp only [Act.put, zq1, zq2, zq3, zq4, zq5, zq6])
 refine wpAnyY_take2 (i := 7) (v := ?_) rfl (by kernel_rfl) (by kernel_rfl) (by kernel_rfl) (by kernel_rfl) (fun _ _ _ h => h) (Or.inl ⟨by first | kernel_rfl | rfl, ?_⟩) (fun _ _ => trivial) (by assumption) ?_
 rotate_left
 ·intro w hSw; (try dsimp only at hSw); go_simp; (try with_reducible rfl)
 (try simp only [Act.put, zq1, zq2, zq3, zq4, zq5, zq6])
 refine wpAnyY_take2 (i := 8) (v := ?_) rfl (by kernel_rfl) (by kernel_rfl) (by kernel_rfl) (by kernel_rfl) (fun _ _ _ h => h) (Or.inl ⟨by first | kernel_rfl | rfl, ?_⟩) (fun _ _ => trivial) (by assumption) ?_
 rotate_left
 ·intro w hSw; (try dsimp only at hSw); go_simp; (try with_reducible rfl)
 (try simp only [Act.put, zq1, zq2, zq3, zq4, zq5, zq6])
 refine wpAnyY_late (i := 9) (by kernel_rfl) (by kernel_rfl) rfl (fun K hK => ?_)
 (try rw [if_pos (by kernel_rfl)])
 refine wp_store_row 81 _ _ rfl W.heap.size C3 rfl rfl 81 C2 HBX6.out HI3.out HOL3.out HC3S.out.2 ?_
 obtain ⟨w7, hw7⟩ : ∃ y, w6.setRow W.heap.size C3 = y := ⟨_, rfl⟩
 rw [hw7]
 refine hK.out _ _ (trivial) ?_
 clear hK K
 (try simp only [Act.put, zq1, zq2, zq3, zq4, zq5, zq6])
 refine wpAnyY_last (i := 10) (by kernel_rfl) (by kernel_rfl) (by kernel_rfl) rfl (fun K hK => ?_)
 go_simp
 refine hK.out _ _ trivial ?_
 clear hK K hHeld
 have hst : ∀ k, k ≠ W.heap.size → w7.heap[k]? = w6.heap[k]? := fun k hk => by rw [← hw7]; exact setRow_other _ _ _ _ hk
 have hs7 : w7.heap.size = w6.heap.size := by rw [← hw7]; simp [World.setRow]
 have HST := Lh hst
 have HS7 := Lh hs7
 have HBX7 : Hid (RdB W.heap.size C3 w7) := Lh (by rw [← hw7]; exact HBX6.out.row C3)
 have HBW7 : Hid (Below W.heap.size W w7) := Lh (by rw [← hw7]; exact setRow_below (HIr.out.bel.trans (HBR.out.mono HIr.out.bel.size)) (Nat.le_refl _) _)
 have HSZ2 : Hid (wb.heap.size ≤ wr.heap.size ∧ wr.heap.size ≤ w6.heap.size ∧ W.heap.size + 1 < wb.heap.size) := Lh ⟨HIr.out.sz, HBR.out.size, HLT.out.1⟩
 have HOA : Hid (w7.ownsRow wb.heap.size 5 1 (.slice A o.length c) o.length (o.map (Value.int .u8))) := Lh (own_keep (own_keep HIr.out.row fun k hk => HBR.out.block k (own_ty HIr.out.row hk).2.1) fun k hk => hst k (by have := (own_ty HIr.out.row hk).1; have := HLT.out; omega))
 have HSLN : Hid (Sl w7 1 An on.length (on.map (Value.int .u8))) := Lh (Sl.of_own (own_keep HO6.out fun k hk => hst k (by have h := (own_ty HO6.out hk).1; have := HTBL.out; have h2 : wr.heap.size ≤ k := h; omega)))
 have honl := HONL.out
 have h63 : o.length + on.length ≤ maxLen := by unfold maxLen; omega
 have hby : (o.length + on.length) * 1 ≤ 140737488355328 := by omega
 have hbw : wb.heap.size ≤ w7.heap.size := by have := HSZ2.out; omega
 obtain ⟨i0, hi, hz0, hz1, hz2⟩ := info_parts infoByteD
 clear hst hs7 hw7 honl hc6 hcx
 go_wp2_with (at_builtin; go_must (refine wpList_append_slN _ rfl _ _ 79 rfl wb.heap.size 5 i0 _ 1 1 Tryz.underlying79 hi hz0 hz1 hz2 rfl (by decide) HOA.out rfl HSLN.out rfl (bytes_one on) h63 hby hbw ?_); intro A8 c8 w8 HO8 HG8 HN8)
 go_roundw
 case rel =>
  have q2 := HSZ2.out
  have q7 := HS7.out
  have q8 := HG8.out.size
  have hA : ∀ k, ownA A = some k → wb.heap.size ≤ k ∧ k < wr.heap.size := fun k hk => ⟨(own_ty HIr.out.row hk).1, (own_ty HIr.out.row hk).2.1⟩
  have h78 : ∀ k, k < w7.heap.size → ownA A ≠ some k → w8.heap[k]? = w7.heap[k]? := fun k hk hn => HG8.out.block k hk fun e => hn e.symm
  refine ⟨i + 1, sn, hxa, hxc, A8, c8, o ++ on, by omega, by omega, by go_num, by rw [List.length_append], by rw [List.length_append]; have := HONL.out; omega, Lh ⟨?_, ?_, ?_, ?_, fun k hk e => ?_, ?_, by omega, fun V hV => ?_, HOKN.out, HLN2.out, HGN.out⟩⟩
  ·rw [HC3.out]
   exact HBX7.out.keep (h78 _ HBX7.out.lt fun e => by have := hA _ e; omega)
  ·have r1 := (HIr.out.res.keep (HBR.out.block _ HIr.out.res.lt)).keep (HST.out _ (by omega))
   exact r1.keep (h78 _ r1.lt fun e => by have := hA _ e; omega)
  ·rw [List.length_append, List.map_append]; exact HO8.out
  ·have r1 := own_keep (own_keep HIr.out.win fun k hk => HBR.out.block k (own_ty HIr.out.win hk).2.1) fun k hk => HST.out k (by have := (own_ty HIr.out.win hk).1; omega)
   exact own_keep r1 fun k hk => h78 k (own_ty r1 hk).2.1 (HIr.out.ne k hk)
  ·rcases HN8.out with h | ⟨g, h, hg⟩
   ·rw [h] at e; exact HIr.out.ne k hk e
   ·rw [h] at e; injection e with e; have := (own_ty HIr.out.win hk).2.1; omega
  ·exact HBW7.out.grown HG8.out HBW7.out.size fun k hk => by have := hA k hk; omega
  ·refine HD6.out V fun k hk hl => ?_
   have hk' : wr.heap.size ≤ k := hk
   have n1 : ownA A ≠ some k := fun e => by have := hA k e; omega
   rw [hV k ⟨by omega, by omega, by omega, fun e => ?_⟩ (by omega), h78 k (by omega) n1, HST.out k (by omega)]
   rcases HN8.out with h | ⟨g, h, hg⟩
   ·rw [h] at e; exact n1 e
   ·rw [h] at e; injection e with e; omega
 case measure => simp [intOf]; omega
end
end Go.Proofs.YtlmkokeapbleoaaGreat
