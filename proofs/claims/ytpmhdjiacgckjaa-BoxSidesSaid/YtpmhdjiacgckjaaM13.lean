/- Contract of (*box.finder).choices where the place has one part. Condition: the finder is known. A map in memory as a list of pairs of values: look-up, store, length, a range over it. No function of the program in sight. Condition: the key's type has a law (Keyed). -/
import Derived.Test.YtpmhdjiacgckjaaM12
import Derived.Test.YtpmhdjiacgckjaaM04
import Derived.Maps.OwnIn
import Derived.Maps.OwnSet
import Derived.Maps.RangeWalk
section
namespace Go.Proofs.Ytpmhdjiacgckjaa
open Go.RowKit Go.Shelf
set_option linter.unusedVariables false
set_option linter.unusedSimpArgs false
attribute [local go_sem] Oper.semAt_some
def ChAt (A : Option Addr) (L : List Ch) (W : World) : Prop := RowsAt 2 chC (fun x W => Lst x.2.1 x.2.2.2 W) A L W
theorem ChRow.dep {base : Nat} {A : Option Addr} {c : Nat} {L : List Ch} {W : World} (h : ChRow base A c L W) (hp : ∀ x ∈ L, Plain x.2.2.2) (hl : L.length ≤ 9223372036854775807) : Dep (fun k => base ≤ k) W (ChAt A L) := fun V hV =>
  ⟨Sl.of_own (own_keep h.own fun k hA => hV k (h.own.lt k (by rw [own_ownA]; exact hA)).1 (h.own.lt k (by rw [own_ownA]; exact hA)).2),
   fun x hx => (hp x hx).lst (Sl.of_own (own_keep (h.sets x hx).1 fun k hA => hV k ((h.sets x hx).1.lt k (by rw [own_ownA]; exact hA)).1 ((h.sets x hx).1.lt k (by rw [own_ownA]; exact hA)).2)) V (Below.refl _ _), hl⟩
/-- a place's choices, or that there are too many -/
def RetCh (w0 w : World) (r : Option (List (Int × List Sp))) (F : World → Prop) (e : Ending) (w' : World) : Prop :=
  Hid (Below w.heap.size w w') ∧ Hid (St w0 w' F) ∧
  ((r = none ∧ e = .returned (.tuple #[.slice none 0 0, .bool false])) ∨
   ∃ A c L, r = some (L.map chV) ∧ e = .returned (.tuple #[.slice A L.length c, .bool true]) ∧ Hid (Dep (fun k => w.heap.size ≤ k) w' (ChAt A L)))
/-- what is read of the finder at one place -/
structure PlK (f : FdI) (fb k xi : Nat) (pb po gb go qb qo : Nat) (ga : Option Addr) (gc : Nat) (g : List Sp) (qa : Option Addr) (qc : Nat) (ps : List PartL) (W : World) : Prop where
  c1 : W.cell? ⟨fb, 1, none⟩ = some (.slice (some ⟨gb, go, none⟩) f.gs.length f.gc)
  c2 : W.cell? ⟨fb, 2, none⟩ = some (.slice (some ⟨pb, po, none⟩) f.pl.length f.pc)
  c3 : W.cell? ⟨fb, 3, none⟩ = some (.slice (some ⟨qb, qo, none⟩) f.qs.length f.qc)
  cp : W.cell? ⟨pb, po + k, none⟩ = some (.int .i64 xi)
  cg : W.cell? ⟨gb, go + xi, none⟩ = some (.slice ga g.length gc)
  cq : W.cell? ⟨qb, qo + k, none⟩ = some (.slice qa ps.length qc)
  gl : Lst ga g W
  ql : PartsAt qa ps W
theorem PlK.of {F : World → Prop} {w : World} {f : FdI} {fb : Nat} {st : Int} (hF : ∀ W, F W → FdW f W ∧ FdBox fb f st W) (hw : F w) {k xi : Nat} {ga : Option Addr} {gc : Nat} {g : List Sp} {qa : Option Addr} {qc : Nat} {ps : List PartL}
    (hx : f.pl[k]? = some (xi : Int)) (hg : f.gs[xi]? = some (ga, gc, g)) (hq : f.qs[k]? = some (qa, qc, ps)) : ∃ pb po gb go qb qo, ∀ W, F W → PlK f fb k xi pb po gb go qb qo ga gc g qa qc ps W := by
  obtain ⟨h1, h2⟩ := hF w hw
  have hkl : k < f.pl.length := (List.getElem?_eq_some_iff.1 hx).1
  have hgl : xi < f.gs.length := (List.getElem?_eq_some_iff.1 hg).1
  have hql : k < f.qs.length := (List.getElem?_eq_some_iff.1 hq).1
  obtain ⟨pb, po, x0, hpa, _⟩ := h1.pl.at_ hkl
  obtain ⟨gb, go, ba, bc, b, hga, _⟩ := h1.gs.at_ hgl
  obtain ⟨qb, qo, da, dc, d, hqa, _⟩ := h1.qs.at_ hql
  refine ⟨pb, po, gb, go, qb, qo, fun W hW => ?_⟩
  obtain ⟨h1, h2⟩ := hF W hW
  obtain ⟨pb', po', x0', hpa', hx', _, hxc⟩ := h1.pl.at_ hkl
  obtain ⟨gb', go', ba', bc', b', hga', hg', _, hgc, hgL⟩ := h1.gs.at_ hgl
  obtain ⟨qb', qo', da', dc', d', hqa', hq', hqc, hqL⟩ := h1.qs.at_ hql
  rw [hpa] at hpa'; rw [hga] at hga'; rw [hqa] at hqa'
  injection hpa' with e; injection e with e1 e2; subst e1; subst e2
  injection hga' with e; injection e with e1 e2; subst e1; subst e2
  injection hqa' with e; injection e with e1 e2; subst e1; subst e2
  rw [hx] at hx'; injection hx' with e; subst e
  rw [hg] at hg'; injection hg' with e; injection e with e1 e; injection e with e2 e3; subst e1; subst e2; subst e3
  rw [hq] at hq'; injection hq' with e; injection e with e1 e; injection e with e2 e3; subst e1; subst e2; subst e3
  exact ⟨by rw [← hga]; exact h2.cell (i := 1) rfl, by rw [← hpa]; exact h2.cell (i := 2) rfl, by rw [← hqa]; exact h2.cell (i := 3) rfl, hxc, hgc, hqc, hgL, hqL⟩
section
variable {w0 w : World} {F : World → Prop}
set_option maxRecDepth 100000 in
set_option maxHeartbeats 16000000 in
theorem choices1_st (hK : Hid (St w0 w F)) (f : FdI) (fb : Nat) (st : Int) (hF : ∀ W, F W → FdW f W ∧ FdBox fb f st W) (hok : Hid (FdOk f)) {k xi : Nat} {ga : Option Addr} {gc : Nat} {g : List Sp} {qa : Option Addr} {qc : Nat} {a d t u : Int}
    (hx : Hid (f.pl[k]? = some (xi : Int))) (hg : Hid (f.gs[xi]? = some (ga, gc, g))) (hq : Hid (f.qs[k]? = some (qa, qc, [(a, d, t, u)]))) (vs : List Sp) (hv : Hid (Rep vs (ImgS d t u g))) (rr : Option (List (Int × List Sp)))
    (hr : Hid (rr = if 4096 < cnt vs then none else some ((nums vs).map fun v => (v, plL (PreS d t u g [(v, v)]))))) :
    Calls Try.prog 56 #[.pointer (some ⟨fb, 0, none⟩), .int .i64 k] w (RetCh w0 w rr F) := by
  have hK0 := hK
  have hK : Hid (St w w F) := Lib.hid (St.start hK.out.1)
  obtain ⟨pb, po, gb, go, qb, qo, HP⟩ := PlK.of hF hK.out.now hx.out hg.out hq.out
  have HP := Lib.hid HP
  have hki : (k : Int) < (f.pl.length : Int) := by have := (List.getElem?_eq_some_iff.1 hx.out).1; omega
  have hgi : (xi : Int) < (f.gs.length : Int) := by have := (List.getElem?_eq_some_iff.1 hg.out).1; omega
  have hqi : (k : Int) < (f.qs.length : Int) := by have := (List.getElem?_eq_some_iff.1 hq.out).1; omega
  clear hF
  obtain ⟨n, hn⟩ : ∃ n, w.heap.size = n := ⟨_, rfl⟩
  obtain ⟨w1, hw1⟩ : ∃ w1, (((w.alloc (.cells #[.pointer (some ⟨fb, 0, none⟩)] 57)).alloc (.cells #[.int .i64 k] 3)).alloc (.cells #[.slice none 0 0] 84)).alloc (.cells #[.bool false] 4) = w1 := ⟨_, rfl⟩
  have HS1 : Hid (w1.heap.size = n + 4) := Lib.hid (by rw [← hw1, ← hn]; simp)
  have HK1 : Hid (St w w1 (fun W => (W.cell? ⟨n, 0, none⟩ = some (.pointer (some ⟨fb, 0, none⟩)) ∧ W.cell? ⟨n + 1, 0, none⟩ = some (.int .i64 k) ∧ (W.cell? ⟨n + 1 + 1, 0, none⟩ = some (.slice none 0 0) ∧ W.frozen? ⟨n + 1 + 1, 0, none⟩ = false) ∧ (W.cell? ⟨n + 1 + 1 + 1, 0, none⟩ = some (.bool false) ∧ W.frozen? ⟨n + 1 + 1 + 1, 0, none⟩ = false)) ∧ F W)) := by
    have c0 := cellNew w (.pointer (some ⟨fb, 0, none⟩)) 57
    have c1 := cellNew (w.alloc (.cells #[.pointer (some ⟨fb, 0, none⟩)] 57)) (.int .i64 k) 3
    have c2 := cellNew ((w.alloc (.cells #[.pointer (some ⟨fb, 0, none⟩)] 57)).alloc (.cells #[.int .i64 k] 3)) (.slice none 0 0) 84
    have c3 := cellNew (((w.alloc (.cells #[.pointer (some ⟨fb, 0, none⟩)] 57)).alloc (.cells #[.int .i64 k] 3)).alloc (.cells #[.slice none 0 0] 84)) (.bool false) 4
    simp only [World.size_alloc, hn] at c0 c1 c2 c3
    have d0 := cellAlloc (.cells #[.bool false] 4) (cellAlloc (.cells #[.slice none 0 0] 84) (cellAlloc (.cells #[.int .i64 k] 3) c0.1))
    have d1 := cellAlloc (.cells #[.bool false] 4) (cellAlloc (.cells #[.slice none 0 0] 84) c1.1)
    have d2 := cellAlloc (.cells #[.bool false] 4) c2.1
    have f2 := frozenAlloc (.cells #[.bool false] 4) c2.1 c2.2
    rw [hw1] at d0 d1 d2 f2 c3
    have hb : Below w.heap.size w w1 := by rw [← hw1]; exact ((((Below.refl _ _).alloc (Nat.le_refl _) _).alloc (by simp) _).alloc (by simp; omega) _).alloc (by simp; omega) _
    exact Lib.hid (hK.out.add hb fun W hW => ⟨(hW.cell (lt_of_cell d0)).trans d0, (hW.cell (lt_of_cell d1)).trans d1, ⟨(hW.cell (lt_of_cell d2)).trans d2, (hW.frozen (lt_of_cell d2)).trans f2⟩, (hW.cell (lt_of_cell c3.1)).trans c3.1, (hW.frozen (lt_of_cell c3.1)).trans c3.2⟩)
  refine (callsIn_wide (n := 8)).1 ?_
  refine callsIn_of_wp_marks Try.func56 rfl trivial ?_ rfl
  refine wpIn_wide.2 ?_
  simp only [Try.ntmps56, List.size_toArray, List.length_cons, List.length_nil, Nat.reduceAdd, Nat.reduceSub, Array.replicate_succ, Array.replicate_zero, List.push_toArray, List.append_toArray, List.nil_append, List.cons_append]
  go_wp2_with fail
  clear hw1
  have HC := Lib.hid (And.intro HK1.out.now.1 (HP.out _ HK1.out.now.2))
  refine wp_region_ZN 14 (by kernel_rfl) (fun W => W.cell? ⟨n, 0, none⟩ = some (.pointer (some ⟨fb, 0, none⟩)) ∧ W.cell? ⟨n + 1, 0, none⟩ = some (.int .i64 k) ∧ W.cell? ⟨fb, 1, none⟩ = some (.slice (some ⟨gb, go, none⟩) f.gs.length f.gc) ∧ W.cell? ⟨fb, 2, none⟩ = some (.slice (some ⟨pb, po, none⟩) f.pl.length f.pc) ∧
      W.cell? ⟨pb, po + k, none⟩ = some (.int .i64 xi) ∧ W.cell? ⟨gb, go + xi, none⟩ = some (.slice ga g.length gc)) ⟨HC.out.1.1, HC.out.1.2.1, HC.out.2.c1, HC.out.2.c2, HC.out.2.cp, HC.out.2.cg⟩ (fun hHeld => ?_)
  refine wpAnyZ_take (i := 0) (v := ?_) rfl (by kernel_rfl) (by kernel_rfl) (by kernel_rfl) (by kernel_rfl) (fun _ _ _ h => h) (Or.inl ⟨by first | kernel_rfl | rfl, ?_⟩) (by assumption) ?_
  rotate_left
  · intro w hSw; (try dsimp only at hSw); go_simp; (try with_reducible rfl)
  (try simp only [Act.put, List.getElem_toArray, List.getElem_cons_succ, List.getElem_cons_zero, List.setIfInBounds_toArray, List.set_cons_zero, List.set_cons_succ])
  refine wpAnyZ_take (i := 1) (v := ?_) rfl (by kernel_rfl) (by kernel_rfl) (by kernel_rfl) (by kernel_rfl) (fun _ _ _ h => h) (Or.inl ⟨by first | kernel_rfl | rfl, ?_⟩) (by assumption) ?_
  rotate_left
  · intro w hSw; (try dsimp only at hSw); go_simp; (try with_reducible rfl)
  (try simp only [Act.put, List.getElem_toArray, List.getElem_cons_succ, List.getElem_cons_zero, List.setIfInBounds_toArray, List.set_cons_zero, List.set_cons_succ])
  refine wpAnyZ_take (i := 2) (v := ?_) rfl (by kernel_rfl) (by kernel_rfl) (by kernel_rfl) (by kernel_rfl) (fun _ _ _ h => h) (Or.inl ⟨by first | kernel_rfl | rfl, ?_⟩) (by assumption) ?_
  rotate_left
  · intro w hSw; (try dsimp only at hSw); go_simp; (try with_reducible rfl)
  (try simp only [Act.put, List.getElem_toArray, List.getElem_cons_succ, List.getElem_cons_zero, List.setIfInBounds_toArray, List.set_cons_zero, List.set_cons_succ])
  refine wpAnyZ_take (i := 3) (v := ?_) rfl (by kernel_rfl) (by kernel_rfl) (by kernel_rfl) (by kernel_rfl) (fun _ _ _ h => h) (Or.inl ⟨by first | kernel_rfl | rfl, ?_⟩) (by assumption) ?_
  rotate_left
  · intro w hSw; (try dsimp only at hSw); go_simp; (try with_reducible rfl)
  (try simp only [Act.put, List.getElem_toArray, List.getElem_cons_succ, List.getElem_cons_zero, List.setIfInBounds_toArray, List.set_cons_zero, List.set_cons_succ])
  refine wpAnyZ_take (i := 4) (v := ?_) rfl (by kernel_rfl) (by kernel_rfl) (by kernel_rfl) (by kernel_rfl) (fun _ _ _ h => h) (Or.inl ⟨by first | kernel_rfl | rfl, ?_⟩) (by assumption) ?_
  rotate_left
  · intro w hSw; (try dsimp only at hSw); go_simp; (try with_reducible rfl)
  (try simp only [Act.put, List.getElem_toArray, List.getElem_cons_succ, List.getElem_cons_zero, List.setIfInBounds_toArray, List.set_cons_zero, List.set_cons_succ])
  refine wpAnyZ_take (i := 5) (v := ?_) rfl (by kernel_rfl) (by kernel_rfl) (by kernel_rfl) (by kernel_rfl) (fun _ _ _ h => h) (Or.inl ⟨by first | kernel_rfl | rfl, ?_⟩) (by assumption) ?_
  rotate_left
  · intro w hSw; (try dsimp only at hSw); go_simp; (try with_reducible rfl)
  (try simp only [Act.put, List.getElem_toArray, List.getElem_cons_succ, List.getElem_cons_zero, List.setIfInBounds_toArray, List.set_cons_zero, List.set_cons_succ])
  refine wpAnyZ_take (i := 6) (v := ?_) rfl (by kernel_rfl) (by kernel_rfl) (by kernel_rfl) (by kernel_rfl) (fun _ _ _ h => h) (Or.inl ⟨by first | kernel_rfl | rfl, ?_⟩) (by assumption) ?_
  rotate_left
  · intro w hSw; (try dsimp only at hSw); go_simp; (try with_reducible rfl)
  (try simp only [Act.put, List.getElem_toArray, List.getElem_cons_succ, List.getElem_cons_zero, List.setIfInBounds_toArray, List.set_cons_zero, List.set_cons_succ])
  refine wpAnyZ_take (i := 7) (v := ?_) rfl (by kernel_rfl) (by kernel_rfl) (by kernel_rfl) (by kernel_rfl) (fun _ _ _ h => h) (Or.inl ⟨by first | kernel_rfl | rfl, ?_⟩) (by assumption) ?_
  rotate_left
  · intro w hSw; (try dsimp only at hSw); go_simp; (try with_reducible rfl)
  (try simp only [Act.put, List.getElem_toArray, List.getElem_cons_succ, List.getElem_cons_zero, List.setIfInBounds_toArray, List.set_cons_zero, List.set_cons_succ])
  refine wpAnyZ_take (i := 8) (v := ?_) rfl (by kernel_rfl) (by kernel_rfl) (by kernel_rfl) (by kernel_rfl) (fun _ _ _ h => h) (Or.inl ⟨by first | kernel_rfl | rfl, ?_⟩) (by assumption) ?_
  rotate_left
  · intro w hSw; (try dsimp only at hSw); go_simp; (try with_reducible rfl)
  (try simp only [Act.put, List.getElem_toArray, List.getElem_cons_succ, List.getElem_cons_zero, List.setIfInBounds_toArray, List.set_cons_zero, List.set_cons_succ])
  refine wpAnyZ_take (i := 9) (v := ?_) rfl (by kernel_rfl) (by kernel_rfl) (by kernel_rfl) (by kernel_rfl) (fun _ _ _ h => h) (Or.inl ⟨by first | kernel_rfl | rfl, ?_⟩) (by assumption) ?_
  rotate_left
  · intro w hSw; (try dsimp only at hSw); go_simp; (try with_reducible rfl)
  (try simp only [Act.put, List.getElem_toArray, List.getElem_cons_succ, List.getElem_cons_zero, List.setIfInBounds_toArray, List.set_cons_zero, List.set_cons_succ])
  refine wpAnyZ_take (i := 10) (v := ?_) rfl (by kernel_rfl) (by kernel_rfl) (by kernel_rfl) (by kernel_rfl) (fun _ _ _ h => h) (Or.inl ⟨by first | kernel_rfl | rfl, ?_⟩) (by assumption) ?_
  rotate_left
  · intro w hSw; (try dsimp only at hSw); go_simp; (try with_reducible rfl)
  (try simp only [Act.put, List.getElem_toArray, List.getElem_cons_succ, List.getElem_cons_zero, List.setIfInBounds_toArray, List.set_cons_zero, List.set_cons_succ])
  refine wpAnyZ_take (i := 11) (v := ?_) rfl (by kernel_rfl) (by kernel_rfl) (by kernel_rfl) (by kernel_rfl) (fun _ _ _ h => h) (Or.inl ⟨by first | kernel_rfl | rfl, ?_⟩) (by assumption) ?_
  rotate_left
  · intro w hSw; (try dsimp only at hSw); go_simp; (try with_reducible rfl)
  (try simp only [Act.put, List.getElem_toArray, List.getElem_cons_succ, List.getElem_cons_zero, List.setIfInBounds_toArray, List.set_cons_zero, List.set_cons_succ])
  refine wpAnyZ_take (i := 12) (v := ?_) rfl (by kernel_rfl) (by kernel_rfl) (by kernel_rfl) (by kernel_rfl) (fun _ _ _ h => h) (Or.inl ⟨by first | kernel_rfl | rfl, ?_⟩) (by assumption) ?_
  rotate_left
  · intro w hSw; (try dsimp only at hSw); go_simp; (try with_reducible rfl)
  (try simp only [Act.put, List.getElem_toArray, List.getElem_cons_succ, List.getElem_cons_zero, List.setIfInBounds_toArray, List.set_cons_zero, List.set_cons_succ])
  refine wpAnyZ_ready (i := 13) (by kernel_rfl) rfl (fun K hK => ?_)
  go_simp
  refine hK.out _ _ (⟨cellAlloc _ HC.out.1.1, cellAlloc _ HC.out.1.2.1, cellAlloc _ HC.out.2.c1, cellAlloc _ HC.out.2.c2, cellAlloc _ HC.out.2.cp, cellAlloc _ HC.out.2.cg⟩) (fun hHeld => ?_)
  clear hK K
  (try simp only [Act.put, List.getElem_toArray, List.getElem_cons_succ, List.getElem_cons_zero, List.setIfInBounds_toArray, List.set_cons_zero, List.set_cons_succ])
  refine wpAnyZ_last (i := 14) rfl (by kernel_rfl) (by kernel_rfl) rfl (fun K hK => ?_)
  go_simp
  refine hK.out _ _ ?_
  refine NoPanic.normal ?_
  clear hK K hHeld
  go_wp2_with fail
  rw [HS1.out]
  obtain ⟨w2, hw2⟩ : ∃ w2, w1.alloc (.cells #[.slice ga g.length gc] 26) = w2 := ⟨_, rfl⟩
  have HS2 : Hid (w2.heap.size = n + 5) := Lib.hid (by rw [← hw2]; simp; exact HS1.out)
  have HK2 : Hid (St w w2 (fun W => W.cell? ⟨n + 4, 0, none⟩ = some (.slice ga g.length gc) ∧ (W.cell? ⟨n, 0, none⟩ = some (.pointer (some ⟨fb, 0, none⟩)) ∧ W.cell? ⟨n + 1, 0, none⟩ = some (.int .i64 k) ∧ (W.cell? ⟨n + 1 + 1, 0, none⟩ = some (.slice none 0 0) ∧ W.frozen? ⟨n + 1 + 1, 0, none⟩ = false) ∧ (W.cell? ⟨n + 1 + 1 + 1, 0, none⟩ = some (.bool false) ∧ W.frozen? ⟨n + 1 + 1 + 1, 0, none⟩ = false)) ∧ F W)) := by
    have c0 := cellNew w1 (.slice ga g.length gc) 26
    rw [hw2, HS1.out] at c0
    exact Lib.hid (HK1.out.add (by rw [← hw2]; exact (Below.refl _ _).alloc (Nat.le_refl _) _) fun W hW => (hW.cell (lt_of_cell c0.1)).trans c0.1)
  rw [hw2]
  clear hw2
  have HC2 := Lib.hid (And.intro HK2.out.now.2.1 (HP.out _ HK2.out.now.2.2))
  refine wp_region_ZN 8 (by kernel_rfl) (fun W => W.cell? ⟨n, 0, none⟩ = some (.pointer (some ⟨fb, 0, none⟩)) ∧ W.cell? ⟨n + 1, 0, none⟩ = some (.int .i64 k) ∧ W.cell? ⟨fb, 3, none⟩ = some (.slice (some ⟨qb, qo, none⟩) f.qs.length f.qc) ∧
      W.cell? ⟨qb, qo + k, none⟩ = some (.slice qa [(a, d, t, u)].length qc)) ⟨HC2.out.1.1, HC2.out.1.2.1, HC2.out.2.c3, HC2.out.2.cq⟩ (fun hHeld => ?_)
  refine wpAnyZ_take (i := 0) (v := ?_) rfl (by kernel_rfl) (by kernel_rfl) (by kernel_rfl) (by kernel_rfl) (fun _ _ _ h => h) (Or.inl ⟨by first | kernel_rfl | rfl, ?_⟩) (by assumption) ?_
  rotate_left
  · intro w hSw; (try dsimp only at hSw); go_simp; (try with_reducible rfl)
  (try simp only [Act.put, List.getElem_toArray, List.getElem_cons_succ, List.getElem_cons_zero, List.setIfInBounds_toArray, List.set_cons_zero, List.set_cons_succ])
  refine wpAnyZ_take (i := 1) (v := ?_) rfl (by kernel_rfl) (by kernel_rfl) (by kernel_rfl) (by kernel_rfl) (fun _ _ _ h => h) (Or.inl ⟨by first | kernel_rfl | rfl, ?_⟩) (by assumption) ?_
  rotate_left
  · intro w hSw; (try dsimp only at hSw); go_simp; (try with_reducible rfl)
  (try simp only [Act.put, List.getElem_toArray, List.getElem_cons_succ, List.getElem_cons_zero, List.setIfInBounds_toArray, List.set_cons_zero, List.set_cons_succ])
  refine wpAnyZ_take (i := 2) (v := ?_) rfl (by kernel_rfl) (by kernel_rfl) (by kernel_rfl) (by kernel_rfl) (fun _ _ _ h => h) (Or.inl ⟨by first | kernel_rfl | rfl, ?_⟩) (by assumption) ?_
  rotate_left
  · intro w hSw; (try dsimp only at hSw); go_simp; (try with_reducible rfl)
  (try simp only [Act.put, List.getElem_toArray, List.getElem_cons_succ, List.getElem_cons_zero, List.setIfInBounds_toArray, List.set_cons_zero, List.set_cons_succ])
  refine wpAnyZ_take (i := 3) (v := ?_) rfl (by kernel_rfl) (by kernel_rfl) (by kernel_rfl) (by kernel_rfl) (fun _ _ _ h => h) (Or.inl ⟨by first | kernel_rfl | rfl, ?_⟩) (by assumption) ?_
  rotate_left
  · intro w hSw; (try dsimp only at hSw); go_simp; (try with_reducible rfl)
  (try simp only [Act.put, List.getElem_toArray, List.getElem_cons_succ, List.getElem_cons_zero, List.setIfInBounds_toArray, List.set_cons_zero, List.set_cons_succ])
  refine wpAnyZ_take (i := 4) (v := ?_) rfl (by kernel_rfl) (by kernel_rfl) (by kernel_rfl) (by kernel_rfl) (fun _ _ _ h => h) (Or.inl ⟨by first | kernel_rfl | rfl, ?_⟩) (by assumption) ?_
  rotate_left
  · intro w hSw; (try dsimp only at hSw); go_simp; (try with_reducible rfl)
  (try simp only [Act.put, List.getElem_toArray, List.getElem_cons_succ, List.getElem_cons_zero, List.setIfInBounds_toArray, List.set_cons_zero, List.set_cons_succ])
  refine wpAnyZ_take (i := 5) (v := ?_) rfl (by kernel_rfl) (by kernel_rfl) (by kernel_rfl) (by kernel_rfl) (fun _ _ _ h => h) (Or.inl ⟨by first | kernel_rfl | rfl, ?_⟩) (by assumption) ?_
  rotate_left
  · intro w hSw; (try dsimp only at hSw); go_simp; (try with_reducible rfl)
  (try simp only [Act.put, List.getElem_toArray, List.getElem_cons_succ, List.getElem_cons_zero, List.setIfInBounds_toArray, List.set_cons_zero, List.set_cons_succ])
  refine wpAnyZ_take (i := 6) (v := ?_) rfl (by kernel_rfl) (by kernel_rfl) (by kernel_rfl) (by kernel_rfl) (fun _ _ _ h => h) (Or.inl ⟨by first | kernel_rfl | rfl, ?_⟩) (by assumption) ?_
  rotate_left
  · intro w hSw; (try dsimp only at hSw); go_simp; (try with_reducible rfl)
  (try simp only [Act.put, List.getElem_toArray, List.getElem_cons_succ, List.getElem_cons_zero, List.setIfInBounds_toArray, List.set_cons_zero, List.set_cons_succ])
  refine wpAnyZ_ready (i := 7) (by kernel_rfl) rfl (fun K hK => ?_)
  go_simp
  refine hK.out _ _ (⟨cellAlloc _ HC2.out.1.1, cellAlloc _ HC2.out.1.2.1, cellAlloc _ HC2.out.2.c3, cellAlloc _ HC2.out.2.cq⟩) (fun hHeld => ?_)
  clear hK K
  (try simp only [Act.put, List.getElem_toArray, List.getElem_cons_succ, List.getElem_cons_zero, List.setIfInBounds_toArray, List.set_cons_zero, List.set_cons_succ])
  refine wpAnyZ_last (i := 8) rfl (by kernel_rfl) (by kernel_rfl) rfl (fun K hK => ?_)
  go_simp
  refine hK.out _ _ ?_
  refine NoPanic.normal ?_
  clear hK K hHeld
  go_wp2_with fail
  obtain ⟨w3, hw3⟩ : ∃ w3, (w2.alloc (.cells #[.slice qa 1 qc] 22)).drew.drew = w3 := ⟨_, rfl⟩
  have HS3 : Hid (w3.heap.size = n + 6) := Lib.hid (by rw [← hw3]; simp; exact HS2.out)
  have HK3 : Hid (St w w3 (fun W => W.cell? ⟨n + 5, 0, none⟩ = some (.slice qa 1 qc) ∧ W.cell? ⟨n + 4, 0, none⟩ = some (.slice ga g.length gc) ∧ (W.cell? ⟨n, 0, none⟩ = some (.pointer (some ⟨fb, 0, none⟩)) ∧ W.cell? ⟨n + 1, 0, none⟩ = some (.int .i64 k) ∧ (W.cell? ⟨n + 1 + 1, 0, none⟩ = some (.slice none 0 0) ∧ W.frozen? ⟨n + 1 + 1, 0, none⟩ = false) ∧ (W.cell? ⟨n + 1 + 1 + 1, 0, none⟩ = some (.bool false) ∧ W.frozen? ⟨n + 1 + 1 + 1, 0, none⟩ = false)) ∧ F W)) := by
    have c0 := cellNew w2 (.slice qa 1 qc) 22
    rw [HS2.out] at c0
    exact Lib.hid (HK2.out.add (by rw [← hw3]; exact ((Below.refl _ _).alloc (Nat.le_refl _) _).drew.drew) fun W hW => (hW.cell (p := ⟨n + 5, 0, none⟩) (by rw [HS3.out]; show n + 5 < n + 6; omega)).trans (by rw [← hw3]; exact c0.1))
  rw [hw3, HS2.out]
  clear hw3
  obtain ⟨xb, xo, p0, hqa, hp0, _, hp1, hp2, hp3, hp4⟩ := (HP.out _ HK3.out.now.2.2.2).ql.at_ (j := 0) (by simp)
  obtain rfl : p0 = (a, d, t, u) := by simpa using hp0.symm
  subst hqa
  simp only [Nat.zero_mul, Nat.add_zero] at hp1 hp2 hp3 hp4
  have HPC : Hid (St w w3 (fun W => (W.cell? ⟨xb, xo, none⟩ = some (.int .i64 a) ∧ W.cell? ⟨xb, xo + 1, none⟩ = some (.int .i64 d) ∧ W.cell? ⟨xb, xo + 2, none⟩ = some (.int .i64 t) ∧ W.cell? ⟨xb, xo + 3, none⟩ = some (.int .i64 u)) ∧ _)) :=
    Lib.hid (HK3.out.add (Below.refl _ _) fun W hW => ⟨(hW.cell (lt_of_cell hp1)).trans hp1, (hW.cell (lt_of_cell hp2)).trans hp2, (hW.cell (lt_of_cell hp3)).trans hp3, (hW.cell (lt_of_cell hp4)).trans hp4⟩)
  clear hp0 hp1 hp2 hp3 hp4 HK3
  have HK3 := HPC
  clear HPC
  have hGL : ∀ W, F W → Lst ga g W := fun W h => (HP.out W h).gl
  have HGL := Lib.hid hGL
  clear hGL
  refine wp_region_ZN 5 (by kernel_rfl) (fun W => W.cell? ⟨n + 5, 0, none⟩ = some (.slice (some ⟨xb, xo, none⟩) 1 qc) ∧ W.cell? ⟨n + 4, 0, none⟩ = some (.slice ga g.length gc) ∧ W.cell? ⟨xb, xo, none⟩ = some (.int .i64 a) ∧ W.cell? ⟨xb, xo + 1, none⟩ = some (.int .i64 d) ∧ W.cell? ⟨xb, xo + 2, none⟩ = some (.int .i64 t) ∧ W.cell? ⟨xb, xo + 3, none⟩ = some (.int .i64 u))
    ⟨HK3.out.now.2.1, HK3.out.now.2.2.1, HK3.out.now.1⟩ (fun hHeld => ?_)
  refine wpAnyZ_take (i := 0) (v := ?_) rfl (by kernel_rfl) (by kernel_rfl) (by kernel_rfl) (by kernel_rfl) (fun _ _ _ h => h) (Or.inl ⟨by first | kernel_rfl | rfl, ?_⟩) (by assumption) ?_
  rotate_left
  · intro w hSw; (try dsimp only at hSw); go_simp; (try with_reducible rfl)
  (try simp only [Act.put, List.getElem_toArray, List.getElem_cons_succ, List.getElem_cons_zero, List.setIfInBounds_toArray, List.set_cons_zero, List.set_cons_succ])
  refine wpAnyZ_take (i := 1) (v := ?_) rfl (by kernel_rfl) (by kernel_rfl) (by kernel_rfl) (by kernel_rfl) (fun _ _ _ h => h) (Or.inl ⟨by first | kernel_rfl | rfl, ?_⟩) (by assumption) ?_
  rotate_left
  · intro w hSw; (try dsimp only at hSw); go_simp; (try with_reducible rfl)
  (try simp only [Act.put, List.getElem_toArray, List.getElem_cons_succ, List.getElem_cons_zero, List.setIfInBounds_toArray, List.set_cons_zero, List.set_cons_succ])
  refine wpAnyZ_take (i := 2) (v := ?_) rfl (by kernel_rfl) (by kernel_rfl) (by kernel_rfl) (by kernel_rfl) (fun _ _ _ h => h) (Or.inl ⟨by first | kernel_rfl | rfl, ?_⟩) (by assumption) ?_
  rotate_left
  · intro w hSw; (try dsimp only at hSw); go_simp; (try with_reducible rfl)
  (try simp only [Act.put, List.getElem_toArray, List.getElem_cons_succ, List.getElem_cons_zero, List.setIfInBounds_toArray, List.set_cons_zero, List.set_cons_succ])
  refine wpAnyZ_take (i := 3) (v := ?_) rfl (by kernel_rfl) (by kernel_rfl) (by kernel_rfl) (by kernel_rfl) (fun _ _ _ h => h) (Or.inl ⟨by first | kernel_rfl | rfl, ?_⟩) (by assumption) ?_
  rotate_left
  · intro w hSw; (try dsimp only at hSw); go_simp; (try with_reducible rfl)
  (try simp only [Act.put, List.getElem_toArray, List.getElem_cons_succ, List.getElem_cons_zero, List.setIfInBounds_toArray, List.set_cons_zero, List.set_cons_succ])
  refine wpAnyZ_ready (i := 4) (by kernel_rfl) rfl (fun K hK => ?_)
  go_simp
  have HK3d := Lib.hid (HK3.out.step ((Below.refl _ w3).drew))
  refine (Image_st HK3d (fun _ h => HGL.out _ h.2.2.2.2) gc a d t u hv).mono ?_
  rintro e w4 ⟨A4, c4, rfl, HK4⟩
  refine hK.out _ _ (⟨HK4.out.now.2.2.1, HK4.out.now.2.2.2.1, HK4.out.now.2.1⟩) (fun hHeld => ?_)
  clear hK K
  (try simp only [Act.put, List.getElem_toArray, List.getElem_cons_succ, List.getElem_cons_zero, List.setIfInBounds_toArray, List.set_cons_zero, List.set_cons_succ])
  refine wpAnyZ_last (i := 5) rfl (by kernel_rfl) (by kernel_rfl) rfl (fun K hK => ?_)
  go_simp
  refine hK.out _ _ ?_
  refine NoPanic.normal ?_
  clear hK K hHeld HK3d HK3 HK2 HK1 HC HC2
  have HSF : Hid (Rep vs (Mem vs)) := Lib.hid (Rep.self hv.out.1)
  go_wp2_with fail
  refine (Count_st HK4 (fun _ h => h.1) c4 HSF).mono ?_
  rintro e w5 ⟨rfl, HK5⟩
  obtain ⟨⟨hx4, hf4⟩, hx5, hf5⟩ := HK5.out.now.2.2.2.2.1.2.2
  have HX := Lib.hid (And.intro (And.intro hx4 hf4) (And.intro hx5 hf5))
  have HBW := Lib.hid HK5.out.2
  by_cases hbig : 4096 < cnt vs
  · have hbg : cnt vs > 4096 := hbig
    obtain rfl : rr = none := by rw [hr.out, if_pos hbig]
    clear hbig
    have hne : ¬ n + 1 + 1 = n + 1 + 1 + 1 := by omega
    go_wp2_with fail
    have hq1 : ((w5.setCell ⟨n + 1 + 1, 0, none⟩ (.slice none 0 0)).setCell ⟨n + 1 + 1 + 1, 0, none⟩ (.bool false)).cell? ⟨n + 1 + 1, 0, none⟩ = some (.slice none 0 0) := by
      rw [World.cell?_setCell_far _ _ _ _ (by show n + 1 + 1 + 1 ≠ n + 1 + 1; omega)]
      exact World.cell?_setCell_same' _ _ _ (by rw [HX.out.1.1]; rfl)
    have hq2 : ((w5.setCell ⟨n + 1 + 1, 0, none⟩ (.slice none 0 0)).setCell ⟨n + 1 + 1 + 1, 0, none⟩ (.bool false)).cell? ⟨n + 1 + 1 + 1, 0, none⟩ = some (.bool false) := by
      refine World.cell?_setCell_same' _ _ _ ?_
      rw [World.cell?_setCell_far _ _ _ _ (by show n + 1 + 1 ≠ n + 1 + 1 + 1; omega), HX.out.2.1]; rfl
    have hbE : Below w.heap.size w ((w5.setCell ⟨n + 1 + 1, 0, none⟩ (.slice none 0 0)).setCell ⟨n + 1 + 1 + 1, 0, none⟩ (.bool false)) := (HBW.out.setCell (p := ⟨n + 1 + 1, 0, none⟩) (by show w.heap.size ≤ n + 1 + 1; omega) _).setCell (p := ⟨n + 1 + 1 + 1, 0, none⟩) (by show w.heap.size ≤ n + 1 + 1 + 1; omega) _
    refine leaveM_nil (.tuple #[.slice none 0 0, .bool false]) (by simp [results, Try.f56, go_sem, hq1, hq2]) ?_
    exact ⟨Lib.hid hbE, Lib.hid (hK0.out.step hbE), .inl ⟨rfl, rfl⟩⟩
  · have hbg : ¬ cnt vs > 4096 := hbig
    have HRR : Hid (rr = some ((nums vs).map fun v => (v, plL (PreS d t u g [(v, v)])))) := Lib.hid (by rw [hr.out, if_neg hbig])
    clear hbig
    have HKA := Lib.hid (HK5.out.add ((Below.refl w5.heap.size w5).alloc (Nat.le_refl _) (.cells #[.slice none 0 0] 84)) (G := fun W => True) (fun _ _ => trivial))
    have HE := Lib.hid (Each_any A4 vs.length c4 vs vs (w5.alloc (.cells #[.slice none 0 0] 84)) HKA.out.now.2.1.sp HKA.out.now.2.1.wd (by have := HKA.out.now.2.1.len; omega) HSF.out)
    go_wp2_with fail
    refine HE.out.mono ?_
    rintro e w6 ⟨B, gB, c6, rfl, hbd, hcB, hsp, hb6⟩
    obtain ⟨hb56, hbr0, hsz6, hsq⟩ := each_boxC hv.out.1 (fun v => plL (PreS d t u g [(v, v)])) hbd hcB hsp hb6
    obtain ⟨m, hm⟩ : ∃ m, w5.heap.size = m := ⟨_, rfl⟩
    have HM := Lib.hid hm
    have HB6 := Lib.hid hb56
    have HB0 := Lib.hid hbr0
    have HSQ := Lib.hid hsq
    have hnm : n + 6 ≤ m := by have h1 : n + 5 < w5.heap.size := lt_of_cell HK5.out.now.2.2.1; omega
    rw [hm] at HB0 HSQ HB6
    rw [hm]
    clear hbd hcB hsp hb6 HE hb56 hbr0 hsq
    go_wp2_with fail
    refine wp_rangeFunc (gf := 66) (lb := #[.pointer (some ⟨B, 0, none⟩)]) rfl (enters_of Try.func66 (by kernel_rfl) rfl) HSQ.out kpO_t (kpB_b (by omega)) (fun _ => rfl)
      (fun pre W => ChB m (m + 1) (fun v => plL (PreS d t u g [(v, v)])) (pre.map (·.1)) W ∧ (pre.length ≤ (nums vs).length ∧ Below m w5 W))
      (fun _ _ _ => False)
      (OwnFrom.and (ChB.own _ _ _ _ _) (OwnFrom.and (ownFrom_pure _ _) (ownFrom_below (by omega) (by omega))))
      (fun _ _ _ _ _ h _ _ => h)
      ⟨HB0.out, Nat.zero_le _, HB6.out⟩
      ?act ?assign ?body ?done ?stop
    case assign =>
      intro l x W K hK
      gi_wp2
      exact hK
    case body =>
      rintro l pre xs W ⟨⟨Ab, cb, L, hbox, hL⟩, hlen1, hbW⟩ hlen
      obtain ⟨x, hxe⟩ : ∃ x, xs.1 = x := ⟨_, rfl⟩
      have hx26 : 0 ≤ x ∧ x ≤ 67108864 := by
        have h1 := (nums_mem vs _).1 xs.2
        rw [hxe] at h1
        obtain ⟨hb, y, _, _, _, rfl⟩ := (hv.out.2 x).1 h1
        exact pval_bd hb y
      rw [hxe]
      have HBox := Lib.hid hbox
      have HBWW := Lib.hid hbW
      have hv' := hbox.cell
      have HKW := Lib.hid (HK5.out.step (by rw [HM.out]; exact hbW))
      have HLL := Lib.hid hL
      have HXE := Lib.hid hxe
      have hRx : Rep (plL (PreS d t u g [(x, x)])) (PreS d t u g [(x, x)]) := plL_rep (rep_all _ fun z hz => by have := hz.2.2; omega)
      obtain ⟨r, hr5⟩ : ∃ r, plL (PreS d t u g [(x, x)]) = r := ⟨_, rfl⟩
      rw [hr5] at hRx
      have HR5 := Lib.hid hr5
      have HRX := Lib.hid hRx
      have hl22 : L.length < 1099511627776 := by
        have h1 := congrArg List.length hL
        simp only [List.length_map] at h1
        have h2 := nums_length hv.out.1
        omega
      clear hbox hbW hxe hL hRx hr5
      gi_wp2
      have hw0 := HKW.out.now
      refine region_round_Z 14 (by kernel_rfl) (fun _ _ h => h) (by kernel_rfl) (fun W => W.cell? ⟨m, 0, none⟩ = some (.slice Ab L.length cb) ∧ W.cell? ⟨n + 5, 0, none⟩ = some (.slice (some ⟨xb, xo, none⟩) 1 qc) ∧ W.cell? ⟨n + 4, 0, none⟩ = some (.slice ga g.length gc) ∧ W.cell? ⟨xb, xo, none⟩ = some (.int .i64 a) ∧ W.cell? ⟨xb, xo + 1, none⟩ = some (.int .i64 d) ∧ W.cell? ⟨xb, xo + 2, none⟩ = some (.int .i64 t) ∧ W.cell? ⟨xb, xo + 3, none⟩ = some (.int .i64 u))
        ⟨hv', hw0.2.2.1, hw0.2.2.2.1, hw0.2.1⟩ (fun hHeld => ?_)
      refine wpAnyZ_take (i := 0) (v := ?_) rfl (by kernel_rfl) (by kernel_rfl) (by kernel_rfl) (by kernel_rfl) (fun _ _ _ h => h) (Or.inl ⟨by first | kernel_rfl | rfl, ?_⟩) (by assumption) ?_
      rotate_left
      · intro w hSw; (try dsimp only at hSw); go_simp; (try with_reducible rfl)
      (try simp only [Act.put, List.getElem_toArray, List.getElem_cons_succ, List.getElem_cons_zero, List.setIfInBounds_toArray, List.set_cons_zero, List.set_cons_succ])
      refine wpAnyZ_take (i := 1) (v := ?_) rfl (by kernel_rfl) (by kernel_rfl) (by kernel_rfl) (by kernel_rfl) (fun _ _ _ h => h) (Or.inl ⟨by first | kernel_rfl | rfl, ?_⟩) (by assumption) ?_
      rotate_left
      · intro w hSw; (try dsimp only at hSw); go_simp; (try with_reducible rfl)
      (try simp only [Act.put, List.getElem_toArray, List.getElem_cons_succ, List.getElem_cons_zero, List.setIfInBounds_toArray, List.set_cons_zero, List.set_cons_succ])
      refine wpAnyZ_take (i := 2) (v := ?_) rfl (by kernel_rfl) (by kernel_rfl) (by kernel_rfl) (by kernel_rfl) (fun _ _ _ h => h) (Or.inl ⟨by first | kernel_rfl | rfl, ?_⟩) (by assumption) ?_
      rotate_left
      · intro w hSw; (try dsimp only at hSw); go_simp; (try with_reducible rfl)
      (try simp only [Act.put, List.getElem_toArray, List.getElem_cons_succ, List.getElem_cons_zero, List.setIfInBounds_toArray, List.set_cons_zero, List.set_cons_succ])
      refine wpAnyZ_take (i := 3) (v := ?_) rfl (by kernel_rfl) (by kernel_rfl) (by kernel_rfl) (by kernel_rfl) (fun _ _ _ h => h) (Or.inl ⟨by first | kernel_rfl | rfl, ?_⟩) (by assumption) ?_
      rotate_left
      · intro w hSw; (try dsimp only at hSw); go_simp; (try with_reducible rfl)
      (try simp only [Act.put, List.getElem_toArray, List.getElem_cons_succ, List.getElem_cons_zero, List.setIfInBounds_toArray, List.set_cons_zero, List.set_cons_succ])
      refine wpAnyZ_take (i := 4) (v := ?_) rfl (by kernel_rfl) (by kernel_rfl) (by kernel_rfl) (by kernel_rfl) (fun _ _ _ h => h) (Or.inl ⟨by first | kernel_rfl | rfl, ?_⟩) (by assumption) ?_
      rotate_left
      · intro w hSw; (try dsimp only at hSw); go_simp; (try with_reducible rfl)
      (try simp only [Act.put, List.getElem_toArray, List.getElem_cons_succ, List.getElem_cons_zero, List.setIfInBounds_toArray, List.set_cons_zero, List.set_cons_succ])
      refine wpAnyZ_take (i := 5) (v := ?_) rfl (by kernel_rfl) (by kernel_rfl) (by kernel_rfl) (by kernel_rfl) (fun _ _ _ h => h) (Or.inl ⟨by first | kernel_rfl | rfl, ?_⟩) (by assumption) ?_
      rotate_left
      · intro w hSw; (try dsimp only at hSw); go_simp; (try with_reducible rfl)
      (try simp only [Act.put, List.getElem_toArray, List.getElem_cons_succ, List.getElem_cons_zero, List.setIfInBounds_toArray, List.set_cons_zero, List.set_cons_succ])
      refine wpAnyZ_take (i := 6) (v := ?_) rfl (by kernel_rfl) (by kernel_rfl) (by kernel_rfl) (by kernel_rfl) (fun _ _ _ h => h) (Or.inl ⟨by first | kernel_rfl | rfl, ?_⟩) (by assumption) ?_
      rotate_left
      · intro w hSw; (try dsimp only at hSw); go_simp; (try with_reducible rfl)
      (try simp only [Act.put, List.getElem_toArray, List.getElem_cons_succ, List.getElem_cons_zero, List.setIfInBounds_toArray, List.set_cons_zero, List.set_cons_succ])
      refine wpAnyZ_take (i := 7) (v := ?_) rfl (by kernel_rfl) (by kernel_rfl) (by kernel_rfl) (by kernel_rfl) (fun _ _ _ h => h) (Or.inl ⟨by first | kernel_rfl | rfl, ?_⟩) (by assumption) ?_
      rotate_left
      · intro w hSw; (try dsimp only at hSw); go_simp; (try with_reducible rfl)
      (try simp only [Act.put, List.getElem_toArray, List.getElem_cons_succ, List.getElem_cons_zero, List.setIfInBounds_toArray, List.set_cons_zero, List.set_cons_succ])
      refine wpAnyZ_take (i := 8) (v := ?_) rfl (by kernel_rfl) (by kernel_rfl) (by kernel_rfl) (by kernel_rfl) (fun _ _ _ h => h) (Or.inl ⟨by first | kernel_rfl | rfl, ?_⟩) (by assumption) ?_
      rotate_left
      · intro w hSw; (try dsimp only at hSw); go_simp; (try with_reducible rfl)
      (try simp only [Act.put, List.getElem_toArray, List.getElem_cons_succ, List.getElem_cons_zero, List.setIfInBounds_toArray, List.set_cons_zero, List.set_cons_succ])
      refine wpAnyZ_ready (i := 9) (by kernel_rfl) rfl (fun K hK => ?_)
      go_simp
      refine hK.out _ _ (⟨cellAlloc _ hv', cellAlloc _ hw0.2.2.1, cellAlloc _ hw0.2.2.2.1, cellAlloc _ hw0.2.1.1, cellAlloc _ hw0.2.1.2.1, cellAlloc _ hw0.2.1.2.2.1, cellAlloc _ hw0.2.1.2.2.2⟩) (fun hHeld => ?_)
      clear hK K
      (try simp only [Act.put, List.getElem_toArray, List.getElem_cons_succ, List.getElem_cons_zero, List.setIfInBounds_toArray, List.set_cons_zero, List.set_cons_succ])
      refine wpAnyZ_ready (i := 10) (by kernel_rfl) rfl (fun K hK => ?_)
      go_simp
      have HKW2 := St.lit (Lib.hid (HKW.out.step ((Below.refl _ W).drew))) (x, x) (by intro p hp; simp at hp; subst hp; simp; omega)
      refine (Pre_stN HKW2 (fun _ h => HGL.out _ h.2.2.2.2.2.2) (fun _ h => h.1) gc 1 a d t u HRX).mono ?_
      rintro e w7 ⟨A7, c7, rfl, HO7, HK7, HB7⟩
      have hW7 : Below W.heap.size W w7 := below_to ((Below.refl _ W).drew.alloc (Nat.le_refl _) _) HB7.out
      have h7 := HK7.out.now
      have hcm := (hW7.cell (lt_of_cell hv')).trans hv'
      have hp7 := h7.2.2.2.1
      have hc5 := h7.2.2.2.2.1
      have hc4 := h7.2.2.2.2.2.1
      refine hK.out _ _ (⟨hcm, hc5, hc4, hp7⟩) (fun hHeld => ?_)
      clear hK K
      (try simp only [Act.put, List.getElem_toArray, List.getElem_cons_succ, List.getElem_cons_zero, List.setIfInBounds_toArray, List.set_cons_zero, List.set_cons_succ])
      refine wpAnyZ_take (i := 11) (v := ?_) rfl (by kernel_rfl) (by kernel_rfl) (by kernel_rfl) (by kernel_rfl) (fun _ _ _ h => h) (Or.inl ⟨by first | kernel_rfl | rfl, ?_⟩) (by assumption) ?_
      rotate_left
      · intro w hSw; (try dsimp only at hSw); go_simp; (try with_reducible rfl)
      (try simp only [Act.put, List.getElem_toArray, List.getElem_cons_succ, List.getElem_cons_zero, List.setIfInBounds_toArray, List.set_cons_zero, List.set_cons_succ])
      refine wpAnyZ_ready (i := 12) (by kernel_rfl) rfl (fun K hK => ?_)
      go_simp
      refine hK.out _ _ (⟨cellAlloc _ hcm, cellAlloc _ hc5, cellAlloc _ hc4, cellAlloc _ hp7.1, cellAlloc _ hp7.2.1, cellAlloc _ hp7.2.2.1, cellAlloc _ hp7.2.2.2⟩) (fun hHeld => ?_)
      clear hK K
      (try simp only [Act.put, List.getElem_toArray, List.getElem_cons_succ, List.getElem_cons_zero, List.setIfInBounds_toArray, List.set_cons_zero, List.set_cons_succ])
      have hmW : m + 1 ≤ W.heap.size := by have h1 : m < W.heap.size := lt_of_cell hv'; omega
      have HOW : Hid (w7.ownsRow (m + 1) 88 2 (.slice Ab L.length cb) L.length (L.flatMap chC)) := Lib.hid (own_keep HBox.out.row.own fun k hA => hW7.block k (HBox.out.row.own.lt k (by rw [own_ownA]; exact hA)).2)
      have hlA : ∀ k, ownA Ab = some k → m + 1 ≤ k := fun k hk => (HBox.out.row.own.lt k (by rw [own_ownA]; exact hk)).1
      have HLA := Lib.hid hlA
      have hbf7 := (hW7.frozen (p := ⟨m, 0, none⟩) (lt_of_cell hv')).trans HBox.out.fz
      have hxbm : xb < m := by have h1 : xb < w5.heap.size := lt_of_cell HK5.out.now.2.1.1; rw [HM.out] at h1; exact h1
      have hz7 : m + 1 ≤ w7.heap.size := Nat.le_trans hmW hW7.size
      have HW7 := Lib.hid hW7
      obtain ⟨i0, hi, hz0, hz1, hz2⟩ := info_parts infoCh
      clear hW7 h7 hlA
      refine wpAnyZ_ready (i := 13) (by kernel_rfl) rfl (fun K hK => ?_)
      refine step_pushG rfl _ _ 84 rfl (m + 1) 88 i0 _ 2 32 Try.underlying84 hi hz0 hz1 hz2 rfl (by decide) HOW.out rfl [.int .i64 x, .slice A7 r.length c7] 88 rfl rfl (by simp [Value.oneCell']) hl22 (by decide) hz7 ?_
      intro A9 c9 w9 HO9 HG9 HN9
      have HPU := Lib.hid (ChBox.push (s := (A7, c7, r)) HBox.out (Nat.le_refl m) (Nat.lt_succ_self m) (Nat.le_refl _) HW7.out rfl (own_base HO7.out (by simp; omega)) (fun g hg => by have := (HO7.out.lt g (by rw [own_ownA]; exact hg)).1; simp at this; omega) HO9.out HG9.out HN9.out)
      have hcm9 := HG9.out.cell (cellAlloc _ hcm) (fun e => by have := HLA.out m e.symm; omega)
      have hcf9 : w9.frozen? ⟨m, 0, none⟩ = false := by have h := HPU.out.2.2.1.fz; rwa [World.frozen?_setCell] at h
      have hold : ∀ {p : Addr} {v : Value}, w7.cell? p = some v → p.block < m + 1 → w9.cell? p = some v := fun h hl => HG9.out.cell (cellAlloc _ h) (fun e => by have := HLA.out _ e.symm; omega)
      refine hK.out _ _ (⟨hcm9, hold hc5 (by show n + 5 < m + 1; omega), hold hc4 (by show n + 4 < m + 1; omega), hold hp7.1 (by show xb < m + 1; omega), hold hp7.2.1 (by show xb < m + 1; omega), hold hp7.2.2.1 (by show xb < m + 1; omega), hold hp7.2.2.2 (by show xb < m + 1; omega)⟩) (fun hHeld => ?_)
      clear hK K
      (try simp only [Act.put, List.getElem_toArray, List.getElem_cons_succ, List.getElem_cons_zero, List.setIfInBounds_toArray, List.set_cons_zero, List.set_cons_succ])
      refine wpAnyZ_last (i := 14) rfl (by kernel_rfl) (by kernel_rfl) rfl (fun K hK => ?_)
      go_simp
      refine hK.out _ _ ?_
      obtain ⟨q1, q2, q3, q4⟩ := HPU.out
      refine ⟨q1, q2, ⟨A9, c9, L ++ [(x, (A7, c7, r))], q3, ?_⟩, by simp; omega, HBWW.out.trans q4⟩
      rw [List.map_append, List.map_append, List.map_append, HLL.out]
      simp [chV, HXE.out, HR5.out]
    case done =>
      rintro D ys W hD hys ⟨⟨Ab, cb, L, hbox, hL⟩, hlen1, hbW⟩ hKD
      have HKW := Lib.hid (HK5.out.step (by rw [HM.out]; exact hbW))
      obtain ⟨⟨hx4, hf4⟩, hx5, hf5⟩ := HKW.out.now.2.2.2.2.1.2.2
      have hv' := hbox.cell
      have HLS : Hid (some (L.map chV) = rr) := Lib.hid (by rw [HRR.out, hL, hys])
      have HKD := Lib.hid hKD
      have HBox := Lib.hid hbox
      have HBWW := Lib.hid hbW
      have hll : L.length ≤ 9223372036854775807 := by
        have h1 := congrArg List.length hL
        simp only [List.length_map] at h1
        have h2 := nums_length hv.out.1
        omega
      clear hbox hbW hKD hL hys
      go_wp2_with fail
      have hK' := ((KeepsOthers.setCell W ⟨n + 1 + 1, 0, none⟩ (.slice Ab L.length cb)).trans (KeepsOthers.setCell _ ⟨n + 1 + 1 + 1, 0, none⟩ (.bool true))).same D _ HKD.out rfl
      have hq1 : ((W.setCell ⟨n + 1 + 1, 0, none⟩ (.slice Ab L.length cb)).setCell ⟨n + 1 + 1 + 1, 0, none⟩ (.bool true)).cell? ⟨n + 1 + 1, 0, none⟩ = some (.slice Ab L.length cb) := by
        rw [World.cell?_setCell_far _ _ _ _ (by show n + 1 + 1 + 1 ≠ n + 1 + 1; omega)]
        exact World.cell?_setCell_same' _ _ _ (by rw [hx4]; rfl)
      have hq2 : ((W.setCell ⟨n + 1 + 1, 0, none⟩ (.slice Ab L.length cb)).setCell ⟨n + 1 + 1 + 1, 0, none⟩ (.bool true)).cell? ⟨n + 1 + 1 + 1, 0, none⟩ = some (.bool true) := by
        refine World.cell?_setCell_same' _ _ _ ?_
        rw [World.cell?_setCell_far _ _ _ _ (by show n + 1 + 1 ≠ n + 1 + 1 + 1; omega), hx5]; rfl
      have hbE : Below w.heap.size w ((W.setCell ⟨n + 1 + 1, 0, none⟩ (.slice Ab L.length cb)).setCell ⟨n + 1 + 1 + 1, 0, none⟩ (.bool true)) := ((below_to HBW.out (by rw [HM.out]; exact HBWW.out)).setCell (p := ⟨n + 1 + 1, 0, none⟩) (by show w.heap.size ≤ n + 1 + 1; omega) _).setCell (p := ⟨n + 1 + 1 + 1, 0, none⟩) (by show w.heap.size ≤ n + 1 + 1 + 1; omega) _
      have hrow : ChRow (m + 1) Ab cb L ((W.setCell ⟨n + 1 + 1, 0, none⟩ (.slice Ab L.length cb)).setCell ⟨n + 1 + 1 + 1, 0, none⟩ (.bool true)) := HBox.out.row.keep fun k hk _ =>
        (heap_setCell_other _ _ _ _ (fun e => by have e2 : k = n + 1 + 1 + 1 := e; omega)).trans (heap_setCell_other _ _ _ _ (fun e => by have e2 : k = n + 1 + 1 := e; omega))
      obtain ⟨W2, hW2⟩ : ∃ W2, (W.setCell ⟨n + 1 + 1, 0, none⟩ (.slice Ab L.length cb)).setCell ⟨n + 1 + 1 + 1, 0, none⟩ (.bool true) = W2 := ⟨_, rfl⟩
      rw [hW2] at hK' hq1 hq2 hbE hrow ⊢
      clear hW2
      have hg := grownBy_putObj' W2 D (.deferred none)
      have hrr : ∀ r, some D = some r → ∃ o : Obj, W2.heap[r]? = some o ∧ o.isCells = false := fun r e => by cases e; exact ⟨_, hK', rfl⟩
      have hc5 := cell_kept hq1 hg hrr
      have hc6 := cell_kept hq2 hg hrr
      have hbF : Below w.heap.size w (W2.putObj D (.deferred none)) := hbE.grown hg hbE.size (fun k e => by cases e; have := HBW.out.size; omega)
      have hRR := HLS.out
      refine ⟨by simp, .inl ⟨_, _, rfl, run_takeDeferred hK', ?_⟩⟩
      refine ⟨.tuple #[.slice Ab L.length cb, .bool true], by simp [results, Try.f56, go_sem, hc5, hc6], Lib.hid hbF, Lib.hid (hK0.out.step hbF), .inr ⟨Ab, cb, L, hRR.symm, rfl, Lib.hid ?_⟩⟩
      refine ((hrow.turn hg hrr).dep (fun y hy => ?_) hll).mono fun k hk _ => by omega
      have h1 : chV y ∈ L.map chV := List.mem_map.2 ⟨y, hy, rfl⟩
      rw [HRR.out] at hRR
      injection hRR with hRR
      rw [hRR] at h1
      obtain ⟨v, _, hv2⟩ := List.mem_map.1 h1
      have h2 : y.2.2.2 = plL (PreS d t u g [(v, v)]) := congrArg Prod.snd hv2.symm
      rw [h2]
      exact (plL_rep (rep_all _ fun z hz => by have := hz.2.2; omega)).1
    case stop =>
      rintro D cd pre W hD _ h _
      exact h.elim
end
end Go.Proofs.Ytpmhdjiacgckjaa
end
section
namespace Go.Proofs.Ytpmhdjiacgckjaa
open Go.RowKit Go.ChangeMaps Go.MapKept Go.WideShapes
open Go.WideElems (Fit rd rg pl rd_key rd_val rg_of)
open Go.Maps (Keyed)
set_option linter.unusedVariables false
set_option linter.unusedSimpArgs false
/-- any element reads -/
def R0 (_ : Value) : Option (DataW Unit × List MemPlace) := some (.nil, [])
def mkey (e : MapEntry) : Value × Value := (e.key, e.val)
/-- block b is a map of these pairs, each key once -/
def MapIs (P : Program) (kt : TypeId) (b : Nat) (M : List (Value × Value)) (w : World) : Prop :=
  ∃ es clock, w.heap[b]? = some (.map es clock) ∧ Fit P kt R0 es clock ∧ (M.map (·.1)).Nodup ∧ ∀ p, p ∈ M ↔ ∃ e ∈ es.toList, mkey e = p
/-- .. of which R are still to come, with the loop's record at r -/
def MapRng (P : Program) (kt : TypeId) (b r : Nat) (R : List (Value × Value)) (w : World) : Prop :=
  ∃ es clock since seen c0, w.heap[b]? = some (.map es clock) ∧ Fit P kt R0 es clock ∧ w.heap[r]? = some (.mapIter (some b) since seen c0) ∧ (∀ x ∈ es.toList, x.born < since) ∧ since ≤ c0 ∧ since ≤ clock ∧
    (R.map (·.1)).Nodup ∧ ∀ p, p ∈ R ↔ ∃ e ∈ es.toList, seen.contains e.born = false ∧ mkey e = p
noncomputable def mapPut (M : List (Value × Value)) (k v : Value) : List (Value × Value) := by classical exact (k, v) :: M.filter fun p => decide (p.1 ≠ k)
section
variable {P : Program} {kt : TypeId} {w w' : World} {b r : Nat} {M R : List (Value × Value)}
theorem MapIs.lt (h : MapIs P kt b M w) : b < w.heap.size := by
  obtain ⟨es, clock, hb, _⟩ := h
  exact (Array.getElem?_eq_some_iff.1 hb).1
theorem MapIs.same (h : MapIs P kt b M w) (hb : w'.heap[b]? = w.heap[b]?) : MapIs P kt b M w' := by
  obtain ⟨es, clock, h1, h2⟩ := h
  exact ⟨es, clock, hb.trans h1, h2⟩
theorem MapIs.made (w : World) : MapIs P kt w.heap.size [] (w.alloc (.map #[] 0)) :=
  ⟨#[], 0, (MapKept.heap_alloc w _).1, ⟨by simp, stamped_empty 0, by simp⟩, List.nodup_nil, by simp⟩
theorem nodup_of_map {α β : Type} (f : α → β) {l : List α} (h : (l.map f).Nodup) : l.Nodup := by
  unfold List.Nodup at *
  rw [List.pairwise_map] at h
  exact h.imp fun h e => h (by rw [e])
theorem fit_nodup {es : Array MapEntry} {clock : Nat} (F : Fit P kt R0 es clock) : (es.toList.map (·.key)).Nodup := by
  have := ((stamped_iff es clock).1 F.stamped).2.2
  unfold List.Nodup
  rw [List.pairwise_map]
  exact this
theorem fit_inj {es : Array MapEntry} {clock : Nat} (F : Fit P kt R0 es clock) {x y : MapEntry} (hx : x ∈ es.toList) (hy : y ∈ es.toList) (h : x.key = y.key) : x = y :=
  entry_eq_of_key ((stamped_iff es clock).1 F.stamped).2.2 hx hy h
theorem MapIs.perm (h : MapIs P kt b M w) : ∃ es clock, w.heap[b]? = some (.map es clock) ∧ M.length = es.size := by
  obtain ⟨es, clock, h1, F, h3, h4⟩ := h
  refine ⟨es, clock, h1, ?_⟩
  have hn : (es.toList.map mkey).Nodup := by
    have := fit_nodup F
    refine nodup_of_map Prod.fst ?_
    rw [List.map_map]; exact this
  have hp : M.Perm (es.toList.map mkey) := (List.perm_ext_iff_of_nodup (nodup_of_map _ h3) hn).2 fun p => by rw [h4, List.mem_map]
  rw [hp.length_eq]; simp
theorem MapIs.len {t e ty : TypeId} (h : MapIs P kt b M w) (ht : P.underlying t = some (.map kt e)) : (Builtin.len_ #[t] ty #[.map (some b)]).run P w = .ok (.int .i64 M.length) w := by
  obtain ⟨es, clock, hb, hl⟩ := h.perm
  rw [hl]
  simp [Builtin.len_, run_underlying ht, MapKept.run_getObj_map hb, goInt, Result.andThen]
/-- 'm[k]' (c = false), 'v, ok := m[k]' (c = true) -/
theorem MapIs.look {t e : TypeId} (c : Bool) (h : MapIs P kt b M w) (K : Keyed P kt) (ht : P.underlying t = some (.map kt e)) {z : Value} (hz : (zeroValue e).run P w = .ok z w) {key : Value} {kl : Lit} (hkey : keyOf P kt key = some kl) :
    ((∀ p ∈ M, p.1 ≠ key) ∧ (Instr.lookup t (.map (some b)) key c).run P w = .ok (if c then .tuple #[z, .bool false] else z) w) ∨
    ∃ v, (key, v) ∈ M ∧ (Instr.lookup t (.map (some b)) key c).run P w = .ok (if c then .tuple #[v, .bool true] else v) w := by
  obtain ⟨es, clock, hb, F, h3, h4⟩ := h
  rcases Maps.fit_look c K ht hz hb F hkey with ⟨hrun, hno, _⟩ | ⟨e0, y, he, hk, hrun, _⟩
  · refine .inl ⟨fun p hp => ?_, hrun⟩
    obtain ⟨e, he, rfl⟩ := (h4 p).1 hp
    exact hno e he
  · exact .inr ⟨e0.val, (h4 _).2 ⟨e0, he, by rw [← hk]; rfl⟩, hrun⟩
/-- 'm[k] = v' -/
theorem MapIs.put {t e : TypeId} (h : MapIs P kt b M w) (K : Keyed P kt) (ht : P.underlying t = some (.map kt e)) (hn : M.length < maxLen) {key : Value} (val : Value) {kl : Lit} (hkey : keyOf P kt key = some kl) :
    ∃ w', (Instr.mapUpdate t (.map (some b)) key val).run P w = .ok () w' ∧ MapIs P kt b (mapPut M key val) w' ∧ w.grownBy w' (some b) ∧ w'.heap.size = w.heap.size := by
  obtain ⟨es0, cl0, hb0, hl0⟩ := h.perm
  obtain ⟨es, clock, hb, F, h3, h4⟩ := h
  rw [hb] at hb0
  injection hb0 with hb0
  injection hb0 with hb1 hb2
  subst hb1
  obtain ⟨es', clock', hrun, F', hsort, _, _, hwho⟩ := Maps.fit_store (R' := R0) K ht hb F (by rw [← hl0]; exact hn) (fun _ _ _ _ hz => hz) hkey (val := val) (yv := (.nil, [])) rfl
  have hkeys : ∀ kl', (∃ x ∈ es'.toList, (rg P kt R0 x).1 = kl') ↔ (kl' = kl ∨ ∃ x ∈ es.toList, (rg P kt R0 x).1 = kl' ∧ notKey kl (rg P kt R0 x) = true) := fun kl' => by
    have p1 := sorted_perm (es'.toList.map (rg P kt R0))
    have p2 := sorted_perm (es.toList.map (rg P kt R0))
    constructor
    · rintro ⟨x, hx, rfl⟩
      have hm := p1.mem_iff.2 (List.mem_map.2 ⟨x, hx, rfl⟩)
      rw [hsort] at hm
      unfold putKey at hm
      rcases List.mem_cons.1 ((insert_perm _ _).mem_iff.1 hm) with hm | hm
      · exact .inl (by rw [hm])
      · obtain ⟨hm1, hm2⟩ := List.mem_filter.1 hm
        obtain ⟨y, hy, he⟩ := List.mem_map.1 (p2.mem_iff.1 hm1)
        exact .inr ⟨y, hy, by rw [he], by rw [he]; exact hm2⟩
    · intro hk
      have : ∃ d, (kl', d) ∈ es'.toList.map (rg P kt R0) := by
        rcases hk with rfl | ⟨x, hx, rfl, hx2⟩
        · exact ⟨_, p1.mem_iff.1 (by rw [hsort]; unfold putKey; exact (insert_perm _ _).mem_iff.2 (List.mem_cons_self ..))⟩
        · refine ⟨(rg P kt R0 x).2, p1.mem_iff.1 ?_⟩
          rw [hsort]; unfold putKey
          exact (insert_perm _ _).mem_iff.2 (List.mem_cons_of_mem _ (List.mem_filter.2 ⟨p2.mem_iff.2 (List.mem_map.2 ⟨x, hx, rfl⟩), hx2⟩))
      obtain ⟨d, hd⟩ := this
      obtain ⟨x, hx, he⟩ := List.mem_map.1 hd
      exact ⟨x, hx, by rw [he]⟩
  have hrgk : ∀ {E : Array MapEntry} {c : Nat} (F : Fit P kt R0 E c) x, x ∈ E.toList → keyOf P kt x.key = some (rg P kt R0 x).1 := fun F x hx => by
    obtain ⟨y, hy⟩ := F.reads x hx
    rw [rg_of hy]; exact rd_key hy
  have hold : ∀ x ∈ es.toList, x.key ≠ key → x ∈ es'.toList := fun x hx hne => by
    have hnk : notKey kl (rg P kt R0 x) = true := (Maps.notKey_iff (K.key hkey)).2 fun e => hne (K.inj (hrgk F x hx) (by rw [e]; exact hkey))
    obtain ⟨y, hy, he⟩ := (hkeys _).2 (.inr ⟨x, hx, rfl, hnk⟩)
    have hyk : y.key = x.key := K.inj (hrgk F' y hy) (by rw [he]; exact hrgk F x hx)
    rcases hwho y hy with ⟨h1, _⟩ | ⟨h1, _⟩
    · rw [← fit_inj F h1 hx hyk]; exact hy
    · exact absurd (hyk.symm.trans h1) hne
  obtain ⟨y0, hy0, he0⟩ := (hkeys kl).2 (.inl rfl)
  have hy0k : y0.key = key := K.inj (hrgk F' y0 hy0) (by rw [he0]; exact hkey)
  have hy0v : y0.val = val := by
    rcases hwho y0 hy0 with ⟨h1, h2⟩ | ⟨_, h2⟩
    · exact absurd hy0k h2
    · exact h2
  refine ⟨_, hrun, ⟨es', clock', heap_setBlock_same hb _, F', ?_, fun p => ?_⟩, ⟨rfl, rfl, rfl, by simp [setBlock], fun i _ hi => heap_setBlock_other hb _ (fun e => hi (by rw [e]))⟩, by simp [setBlock]⟩
  · unfold mapPut
    rw [List.map_cons, List.nodup_cons]
    refine ⟨fun hm => ?_, h3.sublist (List.Sublist.map _ (List.filter_sublist))⟩
    obtain ⟨p, hp, he⟩ := List.mem_map.1 hm
    have := (List.mem_filter.1 hp).2
    simp at this
    exact this he
  · unfold mapPut
    rw [List.mem_cons, List.mem_filter]
    constructor
    · rintro (rfl | ⟨hp, hk⟩)
      · exact ⟨y0, hy0, by unfold mkey; rw [hy0k, hy0v]⟩
      · obtain ⟨x, hx, rfl⟩ := (h4 p).1 hp
        exact ⟨x, hold x hx (by classical exact of_decide_eq_true hk), rfl⟩
    · rintro ⟨x, hx, rfl⟩
      rcases hwho x hx with ⟨h1, h2⟩ | ⟨h1, h2⟩
      · exact .inr ⟨(h4 _).2 ⟨x, h1, rfl⟩, by classical exact decide_eq_true h2⟩
      · exact .inl (by unfold mkey; rw [h1, h2])
/-- 'range m' -/
theorem MapIs.range {t e : TypeId} (h : MapIs P kt b M w) (ht : P.underlying t = some (.map kt e)) :
    (Instr.range t (.map (some b))).run P w = .ok (.pointer (some ⟨w.heap.size, 0, none⟩)) (w.alloc (.mapIter (some b) (h.choose_spec.choose) #[] (h.choose_spec.choose))) ∧ MapRng P kt b w.heap.size M (w.alloc (.mapIter (some b) (h.choose_spec.choose) #[] (h.choose_spec.choose))) := by
  have hlt := h.lt
  obtain ⟨hb, F, h3, h4⟩ := h.choose_spec.choose_spec
  refine ⟨run_range_map w t kt e b _ _ ht hb, h.choose, _, _, #[], _, ((MapKept.heap_alloc w _).2 b hlt).trans hb, F, (MapKept.heap_alloc w _).1, F.stamped.1, Nat.le_refl _, Nat.le_refl _, h3, fun p => ?_⟩
  rw [h4 p]
  simp
theorem MapRng.ne (h : MapRng P kt b r R w) : r ≠ b := by
  obtain ⟨es, clock, since, seen, c0, hb, _, hr, _⟩ := h
  rintro rfl
  rw [hb] at hr; cases hr
theorem MapRng.same (h : MapRng P kt b r R w) (hb : w'.heap[b]? = w.heap[b]?) (hr : w'.heap[r]? = w.heap[r]?) : MapRng P kt b r R w' := by
  obtain ⟨es, clock, since, seen, c0, h1, h2, h3, h4⟩ := h
  exact ⟨es, clock, since, seen, c0, hb.trans h1, h2, hr.trans h3, h4⟩
theorem MapRng.next (h : MapRng P kt b r R w) (ty : TypeId) :
    (R = [] ∧ (Instr.next (.pointer (some ⟨r, 0, none⟩)) false ty).run P w = .ok (.tuple #[.bool false]) w) ∨
    ∃ p R' w', R.Perm (p :: R') ∧ (Instr.next (.pointer (some ⟨r, 0, none⟩)) false ty).run P w = .ok (.tuple #[.bool true, p.1, p.2]) w' ∧ MapRng P kt b r R' w' ∧ w.grownBy w' (some r) ∧ w'.heap.size = w.heap.size ∧
      (Instr.entry (.pointer (some ⟨r, 0, none⟩))).run P w' = .ok (.tuple #[p.1, p.2]) w' := by
  have hne := h.ne
  obtain ⟨es, clock, since, seen, c0, hb, F, hr, hold, hsc, hsk, hnd, hm⟩ := h
  rcases run_next_at (P := P) w ty r b since c0 seen es clock hr hb hold hsc with ⟨h0, hrun⟩ | ⟨e, he, w1, hal, hrun⟩
  · refine .inl ⟨List.eq_nil_iff_forall_not_mem.2 fun p hp => ?_, hrun⟩
    obtain ⟨x, hx, hs, _⟩ := (hm p).1 hp
    rw [all_seen es seen h0 x hx] at hs
    cases hs
  · obtain ⟨hem, hes⟩ := mem_left he
    have hr1 : w1.heap[r]? = some (.mapIter (some b) since seen c0) := by rcases hal with rfl | rfl <;> exact hr
    have hb1 : w1.heap[b]? = some (.map es clock) := by rcases hal with rfl | rfl <;> exact hb
    have hset := heap_set (o' := .mapIter (some b) since (seen.push e.born) clock) hr1
    have hb' : (setBlock w1 r (.mapIter (some b) since (seen.push e.born) clock)).heap[b]? = some (.map es clock) := (hset.2 b (fun e1 => hne e1.symm)).trans hb1
    have hst := (stamped_iff es clock).1 F.stamped
    have hpm : mkey e ∈ R := (hm _).2 ⟨e, hem, hes, rfl⟩
    classical
    have hperm := List.perm_cons_erase hpm
    have hnd2 : ((mkey e :: R.erase (mkey e)).map (·.1)).Nodup := (hperm.map (·.1)).nodup_iff.1 hnd
    rw [List.map_cons, List.nodup_cons] at hnd2
    refine .inr ⟨mkey e, R.erase (mkey e), setBlock w1 r (.mapIter (some b) since (seen.push e.born) clock), hperm, hrun, ⟨es, clock, since, seen.push e.born, clock, hb', F, hset.1, hold, hsk, hsk, hnd2.2, fun p => ?_⟩, ?_, ?_,
      run_entry_at _ r b since seen es clock e hset.1 hb' hem hst.2.1⟩
    · have hRn : R.Nodup := nodup_of_map _ hnd
      rw [hRn.mem_erase_iff, hm p]
      constructor
      · rintro ⟨hpe, x, hx, hs, rfl⟩
        refine ⟨x, hx, ?_, rfl⟩
        rw [contains_push, hs, Bool.false_or, beq_eq_false_iff_ne]
        intro hbn
        exact hpe (by rw [born_inj hst.2.1 hx hem hbn])
      · rintro ⟨x, hx, hs, rfl⟩
        rw [contains_push, Bool.or_eq_false_iff, beq_eq_false_iff_ne] at hs
        refine ⟨fun hk => hs.2 ?_, x, hx, hs.1, rfl⟩
        have := fit_inj F hx hem (congrArg Prod.fst hk)
        rw [this]
    · rcases hal with rfl | rfl <;> exact ⟨rfl, rfl, rfl, by simp [setBlock], fun i _ hi => hset.2 i (fun e1 => hi (by rw [e1]))⟩
    · rcases hal with rfl | rfl <;> simp [setBlock]
theorem MapIs.rng {t e : TypeId} (h : MapIs P kt b M w) (ht : P.underlying t = some (.map kt e)) :
    ∃ w', (Instr.range t (.map (some b))).run P w = .ok (.pointer (some ⟨w.heap.size, 0, none⟩)) w' ∧ MapRng P kt b w.heap.size M w' ∧ Below w.heap.size w w' ∧ w'.heap.size = w.heap.size + 1 := by
  obtain ⟨h1, h2⟩ := h.range ht
  exact ⟨_, h1, h2, (Below.refl _ _).alloc (Nat.le_refl _) _, by simp⟩
theorem MapRng.alike {R' : List (Value × Value)} (h : MapRng P kt b r R w) (h' : MapRng P kt b r R' w) : R.length = R'.length := by
  obtain ⟨es, clock, since, seen, c0, h1, _, h2, _, _, _, h3, h4⟩ := h
  obtain ⟨es', clock', since', seen', c0', h1', _, h2', _, _, _, h3', h4'⟩ := h'
  rw [h1] at h1'; rw [h2] at h2'
  injection h1' with e; injection e with e1 e2; subst e1
  injection h2' with e; injection e with e1 e2 e3 e4; subst e3
  exact ((List.perm_ext_iff_of_nodup (nodup_of_map _ h3) (nodup_of_map _ h3')).2 fun p => by rw [h4, h4']).length_eq
open Classical in
/-- how many are still to come, read off the world -/
noncomputable def mLeft (P : Program) (kt : TypeId) (b r : Nat) (w : World) : Nat := if h : ∃ R, MapRng P kt b r R w then h.choose.length else 0
theorem mLeft_eq (h : MapRng P kt b r R w) : mLeft P kt b r w = R.length := by
  unfold mLeft
  rw [dif_pos ⟨R, h⟩]
  exact MapRng.alike (Classical.choose_spec (⟨R, h⟩ : ∃ R, MapRng P kt b r R w)) h
end
end Go.Proofs.Ytpmhdjiacgckjaa
end
