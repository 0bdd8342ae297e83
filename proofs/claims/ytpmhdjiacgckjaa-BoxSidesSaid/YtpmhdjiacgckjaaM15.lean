/- Contract of (*box.finder).choices where the place has several parts. Condition: the finder is known. -/
import Derived.Test.YtpmhdjiacgckjaaM13
import Derived.Test.YtpmhdjiacgckjaaM14
section
namespace Go.Proofs.Ytpmhdjiacgckjaa
open Go.RowKit Go.Shelf
set_option linter.unusedVariables false
set_option linter.unusedSimpArgs false
attribute [local go_sem] Oper.semAt_some
theorem below_to' {n : Nat} {a b c : World} (h : Below n a b) (k : Below n b c) : Below n a c := h.trans k
/-- which symbols' sets have come out of the map -/
structure OutC (L : List Ch) (R : List (Value × Value)) (O : List Ch) : Prop where
  rest : ∀ p ∈ R, ∃ x ∈ L, chP x = p
  cov : ∀ x ∈ L, chP x ∈ R ∨ (x.1, plL (Mem x.2.2.2)) ∈ O.map chV
  src : ∀ v ∈ O.map chV, ∃ x ∈ L, v = (x.1, plL (Mem x.2.2.2)) ∧ chP x ∉ R
  keys : (O.map (·.1)).Nodup
theorem OutC.start (L : List Ch) : OutC L (L.map chP) [] := ⟨fun p hp => by obtain ⟨x, hx, rfl⟩ := List.mem_map.1 hp; exact ⟨x, hx, rfl⟩, fun x hx => .inl (List.mem_map.2 ⟨x, hx, rfl⟩), fun v hv => (by cases hv), List.nodup_nil⟩
theorem OutC.next {L : List Ch} {R R' : List (Value × Value)} {O : List Ch} {p : Value × Value} {x : Ch} {s : Item Sp} (h : OutC L R O) (hp : R.Perm (p :: R')) (hnd : (R.map (·.1)).Nodup) (hk : (L.map (·.1)).Nodup) (hx : x ∈ L) (hxp : chP x = p) (hs : s.2.2 = plL (Mem x.2.2.2)) : OutC L R' (O ++ [(x.1, s)]) := by
  have hnd2 : ((p :: R').map (·.1)).Nodup := (hp.map (·.1)).nodup_iff.1 hnd
  rw [List.map_cons, List.nodup_cons] at hnd2
  have hpR' : p ∉ R' := fun h => hnd2.1 (List.mem_map.2 ⟨p, h, rfl⟩)
  have hone : ∀ y ∈ L, chP y = p → y = x := fun y hy e => nodup_inj hk hy hx (by have := congrArg Prod.fst (e.trans hxp.symm); simpa [chP] using this)
  have e1 : (O ++ [(x.1, s)]).map chV = O.map chV ++ [(x.1, plL (Mem x.2.2.2))] := by rw [List.map_append]; simp [chV, hs]
  refine ⟨fun q hq => h.rest q (hp.mem_iff.2 (List.mem_cons_of_mem _ hq)), fun y hy => ?_, fun v hv => ?_, ?_⟩
  · rw [e1]
    rcases h.cov y hy with h1 | h1
    · rcases List.mem_cons.1 (hp.mem_iff.1 h1) with h2 | h2
      · rw [hone y hy h2]; exact .inr (by simp)
      · exact .inl h2
    · exact .inr (List.mem_append.2 (.inl h1))
  · rw [e1] at hv
    rcases List.mem_append.1 hv with h1 | h1
    · obtain ⟨y, hy, he, hn⟩ := h.src v h1
      exact ⟨y, hy, he, fun h2 => hn (hp.mem_iff.2 (List.mem_cons_of_mem _ h2))⟩
    · obtain rfl := List.mem_singleton.1 h1
      exact ⟨x, hx, rfl, by rw [hxp]; exact hpR'⟩
  · rw [List.map_append, List.nodup_append]
    refine ⟨h.keys, by simp, fun a ha b hb => ?_⟩
    have hb2 : b = x.1 := by simpa using hb
    rintro rfl
    obtain ⟨o, ho, he⟩ := List.mem_map.1 ha
    obtain ⟨y, hy, he2, hn⟩ := h.src (chV o) (List.mem_map.2 ⟨o, ho, rfl⟩)
    have h3 : y.1 = x.1 := by have := congrArg Prod.fst he2; simp only [chV] at this; rw [← this, he, hb2]
    obtain rfl := nodup_inj hk hy hx h3
    exact hn (by rw [hxp]; exact hp.mem_iff.2 (List.mem_cons_self ..))
theorem rising_unique {l m : List Int} (hl : l.Pairwise (· < ·)) (hm : m.Pairwise (· < ·)) (h : ∀ x, x ∈ l ↔ x ∈ m) : l = m := by
  induction l generalizing m with
  | nil => cases m with
    | nil => rfl
    | cons y m => exact absurd ((h y).2 (List.mem_cons_self ..)) List.not_mem_nil
  | cons x l ih => cases m with
    | nil => exact absurd ((h x).1 (List.mem_cons_self ..)) List.not_mem_nil
    | cons y m =>
      rw [List.pairwise_cons] at hl hm
      have e : x = y := by
        rcases List.mem_cons.1 ((h x).1 (List.mem_cons_self ..)) with e | h1
        · exact e
        · rcases List.mem_cons.1 ((h y).2 (List.mem_cons_self ..)) with e | h2
          · exact e.symm
          · have := hm.1 x h1; have := hl.1 y h2; omega
      subst e
      rw [ih hl.2 hm.2 fun z => ?_]
      constructor
      · intro hz
        rcases List.mem_cons.1 ((h z).1 (List.mem_cons_of_mem _ hz)) with e | h1
        · subst e; have := hl.1 z hz; omega
        · exact h1
      · intro hz
        rcases List.mem_cons.1 ((h z).2 (List.mem_cons_of_mem _ hz)) with e | h1
        · subst e; have := hm.1 z hz; omega
        · exact h1
/-- all has come out: as a list of choices in the order of their values -/
theorem OutC.done {L O O' : List Ch} {g vs : List Sp} {val : Int → Int} (h : OutC L [] O) (hb : ∀ x ∈ L, x.2.2.2 = ((nums g).filter fun y => val y == x.1).map fun y => (y, y)) (ha : ∀ y ∈ nums g, ∃ x ∈ L, x.1 = val y) (hh : ∀ x ∈ L, ∃ y ∈ nums g, val y = x.1)
    (hg : ∀ x, InS g x → 0 ≤ x ∧ x ≤ 2097151) (hv : Rep vs (fun v => ∃ x, InS g x ∧ val x = v)) (hp : O'.Perm O) (hs : O'.Pairwise fun a b => a.1 ≤ b.1) : O'.map chV = (nums vs).map fun v => (v, plL fun x => InS g x ∧ val x = v) := by
  have hk : (O'.map (·.1)).Nodup := (hp.map (·.1)).nodup_iff.2 h.keys
  have hlt : (O'.map (·.1)).Pairwise (· < ·) := by
    unfold List.Nodup at hk
    rw [List.pairwise_map] at hk ⊢
    exact hs.imp₂ (fun a b h1 h2 => by have h2 : a.1 ≠ b.1 := h2; omega) hk
  have hkeys : O'.map (·.1) = nums vs := rising_unique hlt (numsL_rising hv.1) fun v => by
    rw [nums_mem, hv.2]
    constructor
    · intro hv
      obtain ⟨o, ho, rfl⟩ := List.mem_map.1 hv
      obtain ⟨x, hx, he, _⟩ := h.src (chV o) (List.mem_map.2 ⟨o, hp.mem_iff.1 ho, rfl⟩)
      obtain ⟨y, hy, hyv⟩ := hh x hx
      exact ⟨y, (nums_mem g y).1 hy, hyv.trans (congrArg Prod.fst he).symm⟩
    · rintro ⟨y, hy, rfl⟩
      obtain ⟨x, hx, he⟩ := ha y ((nums_mem g y).2 hy)
      rcases h.cov x hx with h1 | h1
      · cases h1
      · obtain ⟨o, ho, he2⟩ := List.mem_map.1 h1
        have h5 : (chV o).1 = x.1 := by rw [he2]
        exact List.mem_map.2 ⟨o, hp.mem_iff.2 ho, Eq.trans h5 he⟩
  rw [← hkeys, List.map_map]
  refine List.map_congr_left fun o ho => ?_
  obtain ⟨x, hx, he, _⟩ := h.src (chV o) (List.mem_map.2 ⟨o, hp.mem_iff.1 ho, rfl⟩)
  have e1 : o.1 = x.1 := by have h5 : (chV o).1 = x.1 := by rw [he]
                            exact h5
  rw [he]
  show (x.1, plL (Mem x.2.2.2)) = (o.1, plL fun z => InS g z ∧ val z = o.1)
  rw [e1]
  congr 2
  funext z
  refine propext ?_
  unfold Mem
  rw [InS_iff, hb x hx]
  constructor
  · rintro ⟨_, _, p, hp, h1, h2⟩
    obtain ⟨y, hy, rfl⟩ := List.mem_map.1 hp
    obtain ⟨hy1, hy2⟩ := List.mem_filter.1 hy
    obtain rfl : z = y := by simp only at h1 h2; omega
    exact ⟨(nums_mem g z).1 hy1, by simpa using hy2⟩
  · rintro ⟨h1, h2⟩
    have := hg z h1
    exact ⟨by omega, by omega, (z, z), List.mem_map.2 ⟨z, List.mem_filter.2 ⟨(nums_mem g z).2 h1, by simpa using h2⟩, rfl⟩, Int.le_refl _, Int.le_refl _⟩
section
variable {w0 w : World} {F : World → Prop}
set_option maxRecDepth 100000 in
set_option maxHeartbeats 16000000 in
theorem choices2_st (hK : Hid (St w0 w F)) (f : FdI) (fb : Nat) (st : Int) (hF : ∀ W, F W → FdW f W ∧ FdBox fb f st W) (hok : Hid (FdOk f)) {k xi : Nat} {ga : Option Addr} {gc : Nat} {g : List Sp} {qa : Option Addr} {qc : Nat} {ps : List PartL}
    (hx : Hid (f.pl[k]? = some (xi : Int))) (hg : Hid (f.gs[xi]? = some (ga, gc, g))) (hq : Hid (f.qs[k]? = some (qa, qc, ps))) (hpl : Hid (Plain g ∧ (∀ x, InS g x → 0 ≤ x ∧ x ≤ 2097151) ∧ (∀ p ∈ ps, bitsB p.2.1 p.2.2.1 p.2.2.2 = true) ∧ ps.length ≤ 8 ∧ ps.length ≠ 1 ∧ g ≠ []))
    (vs : List Sp) (hv : Hid (Rep vs (fun v => ∃ x, InS g x ∧ sumP ps x = v))) (rr : Option (List (Int × List Sp)))
    (hr : Hid (rr = if 4096 < cnt vs then none else some ((nums vs).map fun v => (v, plL fun x => InS g x ∧ sumP ps x = v)))) :
    Calls Try.prog 56 #[.pointer (some ⟨fb, 0, none⟩), .int .i64 k] w (RetCh w0 w rr F) := by
  have hK0 := hK
  have hK : Hid (St w w F) := Lib.hid (St.start hK.out.1)
  obtain ⟨pb, po, gb, go, qb, qo, HP⟩ := PlK.of hF hK.out.now hx.out hg.out hq.out
  have HP := Lib.hid HP
  have hki : (k : Int) < (f.pl.length : Int) := by have := (List.getElem?_eq_some_iff.1 hx.out).1; omega
  have hgi : (xi : Int) < (f.gs.length : Int) := by have := (List.getElem?_eq_some_iff.1 hg.out).1; omega
  have hqi : (k : Int) < (f.qs.length : Int) := by have := (List.getElem?_eq_some_iff.1 hq.out).1; omega
  clear hF
  obtain ⟨n, hn⟩ : ∃ n, w.heap.size = n := ⟨_, rfl⟩
  obtain ⟨w1, hw1⟩ : ∃ w1, (((w.alloc (.cells #[.pointer (some ⟨fb, 0, none⟩)] 57)).alloc (.cells #[.int .i64 k] 3)).alloc (.cells #[.slice none 0 0] 84)).alloc (.cells #[.bool false] 4) = w1 := ⟨_, rfl⟩
  have HS1 : Hid (w1.heap.size = n + 4) := Lib.hid (by rw [← hw1, ← hn]; simp)
  have HK1 : Hid (St w w1 (fun W => (W.cell? ⟨n, 0, none⟩ = some (.pointer (some ⟨fb, 0, none⟩)) ∧ W.cell? ⟨n + 1, 0, none⟩ = some (.int .i64 k) ∧ (W.cell? ⟨n + 1 + 1, 0, none⟩ = some (.slice none 0 0) ∧ W.frozen? ⟨n + 1 + 1, 0, none⟩ = false) ∧ (W.cell? ⟨n + 1 + 1 + 1, 0, none⟩ = some (.bool false) ∧ W.frozen? ⟨n + 1 + 1 + 1, 0, none⟩ = false)) ∧ F W)) := by
    have c0 := cellNew w (.pointer (some ⟨fb, 0, none⟩)) 57
    have c1 := cellNew (w.alloc (.cells #[.pointer (some ⟨fb, 0, none⟩)] 57)) (.int .i64 k) 3
    have c2 := cellNew ((w.alloc (.cells #[.pointer (some ⟨fb, 0, none⟩)] 57)).alloc (.cells #[.int .i64 k] 3)) (.slice none 0 0) 84
    have c3 := cellNew (((w.alloc (.cells #[.pointer (some ⟨fb, 0, none⟩)] 57)).alloc (.cells #[.int .i64 k] 3)).alloc (.cells #[.slice none 0 0] 84)) (.bool false) 4
    simp only [World.size_alloc, hn] at c0 c1 c2 c3
    have d0 := cellAlloc (.cells #[.bool false] 4) (cellAlloc (.cells #[.slice none 0 0] 84) (cellAlloc (.cells #[.int .i64 k] 3) c0.1))
    have d1 := cellAlloc (.cells #[.bool false] 4) (cellAlloc (.cells #[.slice none 0 0] 84) c1.1)
    have d2 := cellAlloc (.cells #[.bool false] 4) c2.1
    have f2 := frozenAlloc (.cells #[.bool false] 4) c2.1 c2.2
    rw [hw1] at d0 d1 d2 f2 c3
    have hb : Below w.heap.size w w1 := by rw [← hw1]; exact ((((Below.refl _ _).alloc (Nat.le_refl _) _).alloc (by simp) _).alloc (by simp; omega) _).alloc (by simp; omega) _
    exact Lib.hid (hK.out.add hb fun W hW => ⟨(hW.cell (lt_of_cell d0)).trans d0, (hW.cell (lt_of_cell d1)).trans d1, ⟨(hW.cell (lt_of_cell d2)).trans d2, (hW.frozen (lt_of_cell d2)).trans f2⟩, (hW.cell (lt_of_cell c3.1)).trans c3.1, (hW.frozen (lt_of_cell c3.1)).trans c3.2⟩)
  refine (callsIn_wide (n := 8)).1 ?_
  refine callsIn_of_wp_marks Try.func56 rfl trivial ?_ rfl
  refine wpIn_wide.2 ?_
  simp only [Try.ntmps56, List.size_toArray, List.length_cons, List.length_nil, Nat.reduceAdd, Nat.reduceSub, Array.replicate_succ, Array.replicate_zero, List.push_toArray, List.append_toArray, List.nil_append, List.cons_append]
  go_wp2_with fail
  clear hw1
  have HC := Lib.hid (And.intro HK1.out.now.1 (HP.out _ HK1.out.now.2))
  refine wp_region_ZN 14 (by kernel_rfl) (fun W => W.cell? ⟨n, 0, none⟩ = some (.pointer (some ⟨fb, 0, none⟩)) ∧ W.cell? ⟨n + 1, 0, none⟩ = some (.int .i64 k) ∧ W.cell? ⟨fb, 1, none⟩ = some (.slice (some ⟨gb, go, none⟩) f.gs.length f.gc) ∧ W.cell? ⟨fb, 2, none⟩ = some (.slice (some ⟨pb, po, none⟩) f.pl.length f.pc) ∧
      W.cell? ⟨pb, po + k, none⟩ = some (.int .i64 xi) ∧ W.cell? ⟨gb, go + xi, none⟩ = some (.slice ga g.length gc)) ⟨HC.out.1.1, HC.out.1.2.1, HC.out.2.c1, HC.out.2.c2, HC.out.2.cp, HC.out.2.cg⟩ (fun hHeld => ?_)
  refine wpAnyZ_take (i := 0) (v := ?_) rfl (by kernel_rfl) (by kernel_rfl) (by kernel_rfl) (by kernel_rfl) (fun _ _ _ h => h) (Or.inl ⟨by first | kernel_rfl | rfl, ?_⟩) (by assumption) ?_
  rotate_left
  · intro w hSw; (try dsimp only at hSw); go_simp; (try with_reducible rfl)
  (try simp only [Act.put, List.getElem_toArray, List.getElem_cons_succ, List.getElem_cons_zero, List.setIfInBounds_toArray, List.set_cons_zero, List.set_cons_succ])
  refine wpAnyZ_take (i := 1) (v := ?_) rfl (by kernel_rfl) (by kernel_rfl) (by kernel_rfl) (by kernel_rfl) (fun _ _ _ h => h) (Or.inl ⟨by first | kernel_rfl | rfl, ?_⟩) (by assumption) ?_
  rotate_left
  · intro w hSw; (try dsimp only at hSw); go_simp; (try with_reducible rfl)
  (try simp only [Act.put, List.getElem_toArray, List.getElem_cons_succ, List.getElem_cons_zero, List.setIfInBounds_toArray, List.set_cons_zero, List.set_cons_succ])
  refine wpAnyZ_take (i := 2) (v := ?_) rfl (by kernel_rfl) (by kernel_rfl) (by kernel_rfl) (by kernel_rfl) (fun _ _ _ h => h) (Or.inl ⟨by first | kernel_rfl | rfl, ?_⟩) (by assumption) ?_
  rotate_left
  · intro w hSw; (try dsimp only at hSw); go_simp; (try with_reducible rfl)
  (try simp only [Act.put, List.getElem_toArray, List.getElem_cons_succ, List.getElem_cons_zero, List.setIfInBounds_toArray, List.set_cons_zero, List.set_cons_succ])
  refine wpAnyZ_take (i := 3) (v := ?_) rfl (by kernel_rfl) (by kernel_rfl) (by kernel_rfl) (by kernel_rfl) (fun _ _ _ h => h) (Or.inl ⟨by first | kernel_rfl | rfl, ?_⟩) (by assumption) ?_
  rotate_left
  · intro w hSw; (try dsimp only at hSw); go_simp; (try with_reducible rfl)
  (try simp only [Act.put, List.getElem_toArray, List.getElem_cons_succ, List.getElem_cons_zero, List.setIfInBounds_toArray, List.set_cons_zero, List.set_cons_succ])
  refine wpAnyZ_take (i := 4) (v := ?_) rfl (by kernel_rfl) (by kernel_rfl) (by kernel_rfl) (by kernel_rfl) (fun _ _ _ h => h) (Or.inl ⟨by first | kernel_rfl | rfl, ?_⟩) (by assumption) ?_
  rotate_left
  · intro w hSw; (try dsimp only at hSw); go_simp; (try with_reducible rfl)
  (try simp only [Act.put, List.getElem_toArray, List.getElem_cons_succ, List.getElem_cons_zero, List.setIfInBounds_toArray, List.set_cons_zero, List.set_cons_succ])
  refine wpAnyZ_take (i := 5) (v := ?_) rfl (by kernel_rfl) (by kernel_rfl) (by kernel_rfl) (by kernel_rfl) (fun _ _ _ h => h) (Or.inl ⟨by first | kernel_rfl | rfl, ?_⟩) (by assumption) ?_
  rotate_left
  · intro w hSw; (try dsimp only at hSw); go_simp; (try with_reducible rfl)
  (try simp only [Act.put, List.getElem_toArray, List.getElem_cons_succ, List.getElem_cons_zero, List.setIfInBounds_toArray, List.set_cons_zero, List.set_cons_succ])
  refine wpAnyZ_take (i := 6) (v := ?_) rfl (by kernel_rfl) (by kernel_rfl) (by kernel_rfl) (by kernel_rfl) (fun _ _ _ h => h) (Or.inl ⟨by first | kernel_rfl | rfl, ?_⟩) (by assumption) ?_
  rotate_left
  · intro w hSw; (try dsimp only at hSw); go_simp; (try with_reducible rfl)
  (try simp only [Act.put, List.getElem_toArray, List.getElem_cons_succ, List.getElem_cons_zero, List.setIfInBounds_toArray, List.set_cons_zero, List.set_cons_succ])
  refine wpAnyZ_take (i := 7) (v := ?_) rfl (by kernel_rfl) (by kernel_rfl) (by kernel_rfl) (by kernel_rfl) (fun _ _ _ h => h) (Or.inl ⟨by first | kernel_rfl | rfl, ?_⟩) (by assumption) ?_
  rotate_left
  · intro w hSw; (try dsimp only at hSw); go_simp; (try with_reducible rfl)
  (try simp only [Act.put, List.getElem_toArray, List.getElem_cons_succ, List.getElem_cons_zero, List.setIfInBounds_toArray, List.set_cons_zero, List.set_cons_succ])
  refine wpAnyZ_take (i := 8) (v := ?_) rfl (by kernel_rfl) (by kernel_rfl) (by kernel_rfl) (by kernel_rfl) (fun _ _ _ h => h) (Or.inl ⟨by first | kernel_rfl | rfl, ?_⟩) (by assumption) ?_
  rotate_left
  · intro w hSw; (try dsimp only at hSw); go_simp; (try with_reducible rfl)
  (try simp only [Act.put, List.getElem_toArray, List.getElem_cons_succ, List.getElem_cons_zero, List.setIfInBounds_toArray, List.set_cons_zero, List.set_cons_succ])
  refine wpAnyZ_take (i := 9) (v := ?_) rfl (by kernel_rfl) (by kernel_rfl) (by kernel_rfl) (by kernel_rfl) (fun _ _ _ h => h) (Or.inl ⟨by first | kernel_rfl | rfl, ?_⟩) (by assumption) ?_
  rotate_left
  · intro w hSw; (try dsimp only at hSw); go_simp; (try with_reducible rfl)
  (try simp only [Act.put, List.getElem_toArray, List.getElem_cons_succ, List.getElem_cons_zero, List.setIfInBounds_toArray, List.set_cons_zero, List.set_cons_succ])
  refine wpAnyZ_take (i := 10) (v := ?_) rfl (by kernel_rfl) (by kernel_rfl) (by kernel_rfl) (by kernel_rfl) (fun _ _ _ h => h) (Or.inl ⟨by first | kernel_rfl | rfl, ?_⟩) (by assumption) ?_
  rotate_left
  · intro w hSw; (try dsimp only at hSw); go_simp; (try with_reducible rfl)
  (try simp only [Act.put, List.getElem_toArray, List.getElem_cons_succ, List.getElem_cons_zero, List.setIfInBounds_toArray, List.set_cons_zero, List.set_cons_succ])
  refine wpAnyZ_take (i := 11) (v := ?_) rfl (by kernel_rfl) (by kernel_rfl) (by kernel_rfl) (by kernel_rfl) (fun _ _ _ h => h) (Or.inl ⟨by first | kernel_rfl | rfl, ?_⟩) (by assumption) ?_
  rotate_left
  · intro w hSw; (try dsimp only at hSw); go_simp; (try with_reducible rfl)
  (try simp only [Act.put, List.getElem_toArray, List.getElem_cons_succ, List.getElem_cons_zero, List.setIfInBounds_toArray, List.set_cons_zero, List.set_cons_succ])
  refine wpAnyZ_take (i := 12) (v := ?_) rfl (by kernel_rfl) (by kernel_rfl) (by kernel_rfl) (by kernel_rfl) (fun _ _ _ h => h) (Or.inl ⟨by first | kernel_rfl | rfl, ?_⟩) (by assumption) ?_
  rotate_left
  · intro w hSw; (try dsimp only at hSw); go_simp; (try with_reducible rfl)
  (try simp only [Act.put, List.getElem_toArray, List.getElem_cons_succ, List.getElem_cons_zero, List.setIfInBounds_toArray, List.set_cons_zero, List.set_cons_succ])
  refine wpAnyZ_ready (i := 13) (by kernel_rfl) rfl (fun K hK => ?_)
  go_simp
  refine hK.out _ _ (⟨cellAlloc _ HC.out.1.1, cellAlloc _ HC.out.1.2.1, cellAlloc _ HC.out.2.c1, cellAlloc _ HC.out.2.c2, cellAlloc _ HC.out.2.cp, cellAlloc _ HC.out.2.cg⟩) (fun hHeld => ?_)
  clear hK K
  (try simp only [Act.put, List.getElem_toArray, List.getElem_cons_succ, List.getElem_cons_zero, List.setIfInBounds_toArray, List.set_cons_zero, List.set_cons_succ])
  refine wpAnyZ_last (i := 14) rfl (by kernel_rfl) (by kernel_rfl) rfl (fun K hK => ?_)
  go_simp
  refine hK.out _ _ ?_
  refine NoPanic.normal ?_
  clear hK K hHeld
  go_wp2_with fail
  rw [HS1.out]
  obtain ⟨w2, hw2⟩ : ∃ w2, w1.alloc (.cells #[.slice ga g.length gc] 26) = w2 := ⟨_, rfl⟩
  have HS2 : Hid (w2.heap.size = n + 5) := Lib.hid (by rw [← hw2]; simp; exact HS1.out)
  have HK2 : Hid (St w w2 (fun W => W.cell? ⟨n + 4, 0, none⟩ = some (.slice ga g.length gc) ∧ (W.cell? ⟨n, 0, none⟩ = some (.pointer (some ⟨fb, 0, none⟩)) ∧ W.cell? ⟨n + 1, 0, none⟩ = some (.int .i64 k) ∧ (W.cell? ⟨n + 1 + 1, 0, none⟩ = some (.slice none 0 0) ∧ W.frozen? ⟨n + 1 + 1, 0, none⟩ = false) ∧ (W.cell? ⟨n + 1 + 1 + 1, 0, none⟩ = some (.bool false) ∧ W.frozen? ⟨n + 1 + 1 + 1, 0, none⟩ = false)) ∧ F W)) := by
    have c0 := cellNew w1 (.slice ga g.length gc) 26
    rw [hw2, HS1.out] at c0
    exact Lib.hid (HK1.out.add (by rw [← hw2]; exact (Below.refl _ _).alloc (Nat.le_refl _) _) fun W hW => (hW.cell (lt_of_cell c0.1)).trans c0.1)
  rw [hw2]
  clear hw2
  have HC2 := Lib.hid (And.intro HK2.out.now.2.1 (HP.out _ HK2.out.now.2.2))
  refine wp_region_ZN 8 (by kernel_rfl) (fun W => W.cell? ⟨n, 0, none⟩ = some (.pointer (some ⟨fb, 0, none⟩)) ∧ W.cell? ⟨n + 1, 0, none⟩ = some (.int .i64 k) ∧ W.cell? ⟨fb, 3, none⟩ = some (.slice (some ⟨qb, qo, none⟩) f.qs.length f.qc) ∧
      W.cell? ⟨qb, qo + k, none⟩ = some (.slice qa ps.length qc)) ⟨HC2.out.1.1, HC2.out.1.2.1, HC2.out.2.c3, HC2.out.2.cq⟩ (fun hHeld => ?_)
  refine wpAnyZ_take (i := 0) (v := ?_) rfl (by kernel_rfl) (by kernel_rfl) (by kernel_rfl) (by kernel_rfl) (fun _ _ _ h => h) (Or.inl ⟨by first | kernel_rfl | rfl, ?_⟩) (by assumption) ?_
  rotate_left
  · intro w hSw; (try dsimp only at hSw); go_simp; (try with_reducible rfl)
  (try simp only [Act.put, List.getElem_toArray, List.getElem_cons_succ, List.getElem_cons_zero, List.setIfInBounds_toArray, List.set_cons_zero, List.set_cons_succ])
  refine wpAnyZ_take (i := 1) (v := ?_) rfl (by kernel_rfl) (by kernel_rfl) (by kernel_rfl) (by kernel_rfl) (fun _ _ _ h => h) (Or.inl ⟨by first | kernel_rfl | rfl, ?_⟩) (by assumption) ?_
  rotate_left
  · intro w hSw; (try dsimp only at hSw); go_simp; (try with_reducible rfl)
  (try simp only [Act.put, List.getElem_toArray, List.getElem_cons_succ, List.getElem_cons_zero, List.setIfInBounds_toArray, List.set_cons_zero, List.set_cons_succ])
  refine wpAnyZ_take (i := 2) (v := ?_) rfl (by kernel_rfl) (by kernel_rfl) (by kernel_rfl) (by kernel_rfl) (fun _ _ _ h => h) (Or.inl ⟨by first | kernel_rfl | rfl, ?_⟩) (by assumption) ?_
  rotate_left
  · intro w hSw; (try dsimp only at hSw); go_simp; (try with_reducible rfl)
  (try simp only [Act.put, List.getElem_toArray, List.getElem_cons_succ, List.getElem_cons_zero, List.setIfInBounds_toArray, List.set_cons_zero, List.set_cons_succ])
  refine wpAnyZ_take (i := 3) (v := ?_) rfl (by kernel_rfl) (by kernel_rfl) (by kernel_rfl) (by kernel_rfl) (fun _ _ _ h => h) (Or.inl ⟨by first | kernel_rfl | rfl, ?_⟩) (by assumption) ?_
  rotate_left
  · intro w hSw; (try dsimp only at hSw); go_simp; (try with_reducible rfl)
  (try simp only [Act.put, List.getElem_toArray, List.getElem_cons_succ, List.getElem_cons_zero, List.setIfInBounds_toArray, List.set_cons_zero, List.set_cons_succ])
  refine wpAnyZ_take (i := 4) (v := ?_) rfl (by kernel_rfl) (by kernel_rfl) (by kernel_rfl) (by kernel_rfl) (fun _ _ _ h => h) (Or.inl ⟨by first | kernel_rfl | rfl, ?_⟩) (by assumption) ?_
  rotate_left
  · intro w hSw; (try dsimp only at hSw); go_simp; (try with_reducible rfl)
  (try simp only [Act.put, List.getElem_toArray, List.getElem_cons_succ, List.getElem_cons_zero, List.setIfInBounds_toArray, List.set_cons_zero, List.set_cons_succ])
  refine wpAnyZ_take (i := 5) (v := ?_) rfl (by kernel_rfl) (by kernel_rfl) (by kernel_rfl) (by kernel_rfl) (fun _ _ _ h => h) (Or.inl ⟨by first | kernel_rfl | rfl, ?_⟩) (by assumption) ?_
  rotate_left
  · intro w hSw; (try dsimp only at hSw); go_simp; (try with_reducible rfl)
  (try simp only [Act.put, List.getElem_toArray, List.getElem_cons_succ, List.getElem_cons_zero, List.setIfInBounds_toArray, List.set_cons_zero, List.set_cons_succ])
  refine wpAnyZ_take (i := 6) (v := ?_) rfl (by kernel_rfl) (by kernel_rfl) (by kernel_rfl) (by kernel_rfl) (fun _ _ _ h => h) (Or.inl ⟨by first | kernel_rfl | rfl, ?_⟩) (by assumption) ?_
  rotate_left
  · intro w hSw; (try dsimp only at hSw); go_simp; (try with_reducible rfl)
  (try simp only [Act.put, List.getElem_toArray, List.getElem_cons_succ, List.getElem_cons_zero, List.setIfInBounds_toArray, List.set_cons_zero, List.set_cons_succ])
  refine wpAnyZ_ready (i := 7) (by kernel_rfl) rfl (fun K hK => ?_)
  go_simp
  refine hK.out _ _ (⟨cellAlloc _ HC2.out.1.1, cellAlloc _ HC2.out.1.2.1, cellAlloc _ HC2.out.2.c3, cellAlloc _ HC2.out.2.cq⟩) (fun hHeld => ?_)
  clear hK K
  (try simp only [Act.put, List.getElem_toArray, List.getElem_cons_succ, List.getElem_cons_zero, List.setIfInBounds_toArray, List.set_cons_zero, List.set_cons_succ])
  refine wpAnyZ_last (i := 8) rfl (by kernel_rfl) (by kernel_rfl) rfl (fun K hK => ?_)
  go_simp
  refine hK.out _ _ ?_
  refine NoPanic.normal ?_
  clear hK K hHeld
  have hne1 : ((ps.length : Int) == 1) = false := by rw [beq_eq_false_iff_ne]; have := hpl.out.2.2.2.2.1; omega
  go_wp2_with fail
  obtain ⟨w3, hw3⟩ : ∃ w3, (w2.alloc (.cells #[.slice qa ps.length qc] 22)).drew.drew = w3 := ⟨_, rfl⟩
  have HS3 : Hid (w3.heap.size = n + 6) := Lib.hid (by rw [← hw3]; simp; exact HS2.out)
  have HK3 : Hid (St w w3 (fun W => W.cell? ⟨n + 5, 0, none⟩ = some (.slice qa ps.length qc) ∧ W.cell? ⟨n + 4, 0, none⟩ = some (.slice ga g.length gc) ∧ (W.cell? ⟨n, 0, none⟩ = some (.pointer (some ⟨fb, 0, none⟩)) ∧ W.cell? ⟨n + 1, 0, none⟩ = some (.int .i64 k) ∧ (W.cell? ⟨n + 1 + 1, 0, none⟩ = some (.slice none 0 0) ∧ W.frozen? ⟨n + 1 + 1, 0, none⟩ = false) ∧ (W.cell? ⟨n + 1 + 1 + 1, 0, none⟩ = some (.bool false) ∧ W.frozen? ⟨n + 1 + 1 + 1, 0, none⟩ = false)) ∧ F W)) := by
    have c0 := cellNew w2 (.slice qa ps.length qc) 22
    rw [HS2.out] at c0
    exact Lib.hid (HK2.out.add (by rw [← hw3]; exact ((Below.refl _ _).alloc (Nat.le_refl _) _).drew.drew) fun W hW => (hW.cell (p := ⟨n + 5, 0, none⟩) (by rw [HS3.out]; show n + 5 < n + 6; omega)).trans (by rw [← hw3]; exact c0.1))
  rw [hw3, HS2.out]
  clear hw3
  have hmm := @run_makeMap Try.prog
  obtain ⟨w4, hw4⟩ : ∃ w4, (w3.alloc (.map #[] 0)).alloc (.cells #[.map (some (n + 6))] 96) = w4 := ⟨_, rfl⟩
  have HS4 : Hid (w4.heap.size = n + 8) := Lib.hid (by rw [← hw4]; simp; exact HS3.out)
  have HB34 : Hid (Below w3.heap.size w3 w4) := Lib.hid (by rw [← hw4]; exact ((Below.refl _ _).alloc (Nat.le_refl _) _).alloc (by simp) _)
  have HM4 : Hid (MapIs Try.prog 3 (n + 6) [] w4) := by
    have h := MapIs.made (P := Try.prog) (kt := 3) w3
    rw [HS3.out] at h
    exact Lib.hid (h.same (by rw [← hw4]; exact Below.heap_alloc _ _ _ (by simp; rw [HS3.out]; omega)))
  have HK4 : Hid (St w w4 (fun W => W.cell? ⟨n + 7, 0, none⟩ = some (.map (some (n + 6))) ∧ W.cell? ⟨n + 5, 0, none⟩ = some (.slice qa ps.length qc) ∧ W.cell? ⟨n + 4, 0, none⟩ = some (.slice ga g.length gc) ∧ (W.cell? ⟨n, 0, none⟩ = some (.pointer (some ⟨fb, 0, none⟩)) ∧ W.cell? ⟨n + 1, 0, none⟩ = some (.int .i64 k) ∧ (W.cell? ⟨n + 1 + 1, 0, none⟩ = some (.slice none 0 0) ∧ W.frozen? ⟨n + 1 + 1, 0, none⟩ = false) ∧ (W.cell? ⟨n + 1 + 1 + 1, 0, none⟩ = some (.bool false) ∧ W.frozen? ⟨n + 1 + 1 + 1, 0, none⟩ = false)) ∧ F W)) := by
    have c0 := cellNew (w3.alloc (.map #[] 0)) (.map (some (n + 6))) 96
    have hs : (w3.alloc (.map #[] 0)).heap.size = n + 7 := by simp; exact HS3.out
    rw [hs, hw4] at c0
    exact Lib.hid (HK3.out.add HB34.out fun W hW => (hW.cell (lt_of_cell c0.1)).trans c0.1)
  have HE := Lib.hid (Each_any ga g.length gc g g w4 ((HP.out _ HK4.out.now.2.2.2.2).gl.sp) ((HP.out _ HK4.out.now.2.2.2.2).gl.wd) (by have := (HP.out _ HK4.out.now.2.2.2.2).gl.len; omega) (Rep.self hpl.out.1))
  have hx4 := HK4.out.now.2.2.1
  rw [← hw4] at hx4
  rw [show n + 6 = w3.heap.size from HS3.out.symm] at hx4
  rw [hmm]
  go_simp
  go_wp2_with fail
  rw [HS3.out, hw4]
  refine HE.out.mono ?_
  rintro e w6 ⟨B, gB, c6, rfl, hbd, hcB, hsp, hb6⟩
  obtain ⟨m, hm⟩ : ∃ m, w6.heap.size = m := ⟨_, rfl⟩
  have HM := Lib.hid hm
  have HB6 := Lib.hid hb6
  have HK6 := Lib.hid (HK4.out.step hb6)
  have hnm : n + 8 ≤ m := by have h1 := hb6.size; rw [HS4.out] at h1; omega
  have HMC : Hid (MapC (n + 6) m (sumP ps) [] [] w6) := Lib.hid ⟨HM4.out.same (hb6.block _ (by rw [HS4.out]; omega)), fun x hx => (by cases hx), fun x hx => (by cases hx), fun x hx => (by cases hx), fun y hy => (by cases hy), fun x hx => (by cases hx)⟩
  have hno : ∀ k, ¬ OwnM (n + 6) w6 k := fun k h => by
    obtain ⟨x, hx, _⟩ := (HMC.out.ownM k).1 h
    cases hx
  rw [HS4.out] at hbd
  have HSQ := Lib.hid (each_stopsS Fence.wide 7 trivial rfl (by omega) w6.heap.size B gB c6 (OwnM (n + 6)) (ownM_on (by omega)) g hpl.out.1 w6 (Nat.le_refl _) (fun k hk => absurd hk (hno k)) (fun hk => hno _ hk) hcB (by omega) hsp)
  have HBN := Lib.hid HK6.out.2
  clear hbd hcB hsp hb6 HE hno
  go_wp2_with fail
  refine wp_rangeFuncG (gf := 66) (lb := #[.pointer (some ⟨B, 0, none⟩)]) rfl (enters_of Try.func66 (by kernel_rfl) rfl) HSQ.out kpO_t (kpO_b (ownM_on (by omega)) (Nat.le_refl _)) (fun _ => rfl)
    (fun pre W => (∃ L, MapC (n + 6) m (sumP ps) (pre.map (·.1)) L W ∧ L.length ≤ 4096) ∧ (pre.length ≤ (nums g).length ∧ Only (n + 6) none w6 W))
    (fun cd pre W => (cd = .ret ∧ 4096 < cnt vs) ∧ (W.cell? ⟨n + 1 + 1, 0, none⟩ = some (.slice none 0 0) ∧ W.cell? ⟨n + 1 + 1 + 1, 0, none⟩ = some (.bool false)) ∧ Below w.heap.size w W)
    (OwnFrom.and (MapC.own _ _ _ _ _ (by omega) _) (OwnFrom.and (ownFrom_pure _ _) (ownFrom_only (by omega))))
    (fun cd => OwnFrom.and (ownFrom_pure _ _) (OwnFrom.and (Own.from (fun s X Y row hs hg hr => ⟨cell_kept hs.1 hg hr, cell_kept hs.2 hg hr⟩) _) (ownFrom_below (Nat.le_refl _) (by omega))))
    ⟨⟨[], HMC.out, by simp⟩, Nat.zero_le _, Only.refl _ _ _⟩
    ?act ?assign ?body ?done ?stop
  case assign =>
    intro l x W K hK
    gi_wp2
    exact hK
  case body =>
    rintro l pre xs W ⟨⟨L, hC, hL⟩, hlen1, hO⟩ hlen
    obtain ⟨x, hxe⟩ : ∃ x, xs.1 = x := ⟨_, rfl⟩
    have hxg : InS g x := by rw [← hxe]; exact (nums_mem g _).1 xs.2
    have hx21 := hpl.out.2.1 x hxg
    rw [hxe]
    have HC := Lib.hid hC
    have HO := Lib.hid hO
    have HXE := Lib.hid hxe
    have HXG := Lib.hid hxg
    have HBW := Lib.hid (below_to' HBN.out (hO.below (B := w.heap.size) (by omega) (by simp) (by omega)))
    have hFW := Lib.hid (hK0.out.1 W HBW.out)
    have hmW : m ≤ W.heap.size := by have := hO.size; omega
    have hPK := HP.out W hFW.out
    have h6 := HK6.out.now
    have hc0 := hO.cell h6.2.2.2.1.1 (by show n ≠ n + 6; omega)
    have hc1 := hO.cell h6.2.2.2.1.2.1 (by show n + 1 ≠ n + 6; omega)
    clear hC hO hxe hxg h6
    gi_wp2
    refine region_round_held (by kernel_rfl) (fun _ _ h => h) (by kernel_rfl) (fun W => W.cell? ⟨n, 0, none⟩ = some (.pointer (some ⟨fb, 0, none⟩)) ∧ W.cell? ⟨n + 1, 0, none⟩ = some (.int .i64 k) ∧ W.cell? ⟨fb, 3, none⟩ = some (.slice (some ⟨qb, qo, none⟩) f.qs.length f.qc) ∧ W.cell? ⟨qb, qo + k, none⟩ = some (.slice qa ps.length qc)) ⟨hc0, hc1, hPK.c3, hPK.cq⟩ (fun hHeld => ?_)
    refine wpAnyH_take (i := 0) (v := ?_) rfl (by kernel_rfl) (by kernel_rfl) (by kernel_rfl) (fun _ _ _ h => h) (Or.inl ⟨by first | kernel_rfl | rfl, ?_⟩) (by assumption) ?_
    rotate_left
    · intro w hSw; (try dsimp only at hSw); go_simp; (try with_reducible rfl)
    (try simp only [Act.put, List.getElem_toArray, List.getElem_cons_succ, List.getElem_cons_zero, List.setIfInBounds_toArray, List.set_cons_zero, List.set_cons_succ])
    refine wpAnyH_take (i := 1) (v := ?_) rfl (by kernel_rfl) (by kernel_rfl) (by kernel_rfl) (fun _ _ _ h => h) (Or.inl ⟨by first | kernel_rfl | rfl, ?_⟩) (by assumption) ?_
    rotate_left
    · intro w hSw; (try dsimp only at hSw); go_simp; (try with_reducible rfl)
    (try simp only [Act.put, List.getElem_toArray, List.getElem_cons_succ, List.getElem_cons_zero, List.setIfInBounds_toArray, List.set_cons_zero, List.set_cons_succ])
    refine wpAnyH_take (i := 2) (v := ?_) rfl (by kernel_rfl) (by kernel_rfl) (by kernel_rfl) (fun _ _ _ h => h) (Or.inl ⟨by first | kernel_rfl | rfl, ?_⟩) (by assumption) ?_
    rotate_left
    · intro w hSw; (try dsimp only at hSw); go_simp; (try with_reducible rfl)
    (try simp only [Act.put, List.getElem_toArray, List.getElem_cons_succ, List.getElem_cons_zero, List.setIfInBounds_toArray, List.set_cons_zero, List.set_cons_succ])
    refine wpAnyH_take (i := 3) (v := ?_) rfl (by kernel_rfl) (by kernel_rfl) (by kernel_rfl) (fun _ _ _ h => h) (Or.inl ⟨by first | kernel_rfl | rfl, ?_⟩) (by assumption) ?_
    rotate_left
    · intro w hSw; (try dsimp only at hSw); go_simp; (try with_reducible rfl)
    (try simp only [Act.put, List.getElem_toArray, List.getElem_cons_succ, List.getElem_cons_zero, List.setIfInBounds_toArray, List.set_cons_zero, List.set_cons_succ])
    refine wpAnyH_take (i := 4) (v := ?_) rfl (by kernel_rfl) (by kernel_rfl) (by kernel_rfl) (fun _ _ _ h => h) (Or.inl ⟨by first | kernel_rfl | rfl, ?_⟩) (by assumption) ?_
    rotate_left
    · intro w hSw; (try dsimp only at hSw); go_simp; (try with_reducible rfl)
    (try simp only [Act.put, List.getElem_toArray, List.getElem_cons_succ, List.getElem_cons_zero, List.setIfInBounds_toArray, List.set_cons_zero, List.set_cons_succ])
    refine wpAnyH_take (i := 5) (v := ?_) rfl (by kernel_rfl) (by kernel_rfl) (by kernel_rfl) (fun _ _ _ h => h) (Or.inl ⟨by first | kernel_rfl | rfl, ?_⟩) (by assumption) ?_
    rotate_left
    · intro w hSw; (try dsimp only at hSw); go_simp; (try with_reducible rfl)
    (try simp only [Act.put, List.getElem_toArray, List.getElem_cons_succ, List.getElem_cons_zero, List.setIfInBounds_toArray, List.set_cons_zero, List.set_cons_succ])
    refine wpAnyH_take (i := 6) (v := ?_) rfl (by kernel_rfl) (by kernel_rfl) (by kernel_rfl) (fun _ _ _ h => h) (Or.inl ⟨by first | kernel_rfl | rfl, ?_⟩) (by assumption) ?_
    rotate_left
    · intro w hSw; (try dsimp only at hSw); go_simp; (try with_reducible rfl)
    (try simp only [Act.put, List.getElem_toArray, List.getElem_cons_succ, List.getElem_cons_zero, List.setIfInBounds_toArray, List.set_cons_zero, List.set_cons_succ])
    refine wpAnyH_take (i := 7) (v := ?_) rfl (by kernel_rfl) (by kernel_rfl) (by kernel_rfl) (fun _ _ _ h => h) (Or.inl ⟨by first | kernel_rfl | rfl, ?_⟩) (by assumption) ?_
    rotate_left
    · intro w hSw; (try dsimp only at hSw); go_simp; (try with_reducible rfl)
    (try simp only [Act.put, List.getElem_toArray, List.getElem_cons_succ, List.getElem_cons_zero, List.setIfInBounds_toArray, List.set_cons_zero, List.set_cons_succ])
    refine wpAnyH_take (i := 8) (v := ?_) rfl (by kernel_rfl) (by kernel_rfl) (by kernel_rfl) (fun _ _ _ h => h) (Or.inl ⟨by first | kernel_rfl | rfl, ?_⟩) (by assumption) ?_
    rotate_left
    · intro w hSw; (try dsimp only at hSw); go_simp; (try with_reducible rfl)
    (try simp only [Act.put, List.getElem_toArray, List.getElem_cons_succ, List.getElem_cons_zero, List.setIfInBounds_toArray, List.set_cons_zero, List.set_cons_succ])
    refine wpAnyH_done (by kernel_rfl) ?_ _
    clear hHeld hPK
    gi_wp2
    gi_loopw [13, 82] (fun s i wr => ∃ j : Nat, j ≤ ps.length ∧ i = .int .i64 j ∧ s = .int .i64 (sumP (ps.take j) x) ∧ Hid (Below W.heap.size W wr)) (fun _ i _ => ps.length - (intOf i).toNat)
    case atStart => exact ⟨0, Nat.zero_le _, rfl, by simp [sumP], Lib.hid ((Below.refl _ W).drew)⟩
    case round =>
    obtain ⟨j, hj, rfl, rfl, HBR⟩ := hrel
    have hp8 := hpl.out.2.2.2.1
    by_cases hjl : j < ps.length
    · have hFr := hK0.out.1 wr (below_to HBW.out HBR.out)
      obtain ⟨xb, xo, p, hqa, hp, _, hp1, hp2, hp3, hp4⟩ := (HP.out _ hFr).ql.at_ hjl
      obtain ⟨pa, pd, pt, pu⟩ := p
      simp only at hp1 hp2 hp3 hp4
      have hbp := hpl.out.2.2.1 _ (List.mem_of_getElem? hp)
      simp only at hbp
      obtain ⟨v, hv⟩ : ∃ v, pval pd pt pu x = v := ⟨_, rfl⟩
      have hv26 := pval_bd hbp x
      rw [hv] at hv26
      have hVO : vOk pd pt pu x = true := (vOk_iff _ _ _ _).2 ⟨hbp, hx21.1, hx21.2⟩
      have hVN : vNum pd pt pu x = v := by unfold vNum; rw [if_pos hVO, hv]
      have hSN : sumP (ps.take (j + 1)) x = sumP (ps.take j) x + v := by rw [take_snoc? hp, sumP_snoc, ← hv]
      have hs0 := sumP_bd (ps := ps.take j) (fun q hq => hpl.out.2.2.1 q (List.mem_of_mem_take hq)) x
      have hlt : ((ps.take j).length : Int) ≤ 8 := by rw [List.length_take]; have := hpl.out.2.2.2.1; omega
      obtain ⟨s, hs⟩ : ∃ s, sumP (ps.take j) x = s := ⟨_, rfl⟩
      rw [hs] at hs0 hSN ⊢
      have hji : (j : Int) < (ps.length : Int) := by omega
      have HVN := Lib.hid hVN
      have HVO := Lib.hid hVO
      have HSN := Lib.hid hSN
      have hsb : 0 ≤ s ∧ s ≤ 536870912 := by omega
      subst hqa
      clear hp hVN hVO hSN hs hs0 hlt hbp hv hFr
      gi_wp2_with (refine ⟨trivial, ?_⟩; gi_at_call 47; refine (CallsIn.inRound l (callsIn_wide.2 (Value_st (F := fun _ => True) (Lib.hid (St.start fun _ _ => trivial)) pa pd pt pu x HVN.out HVO.out))).mono ?_; rintro e w7 ⟨rfl, HK7⟩)
      exact ⟨⟨j + 1, by omega, by go_num, by rw [HSN.out], Lib.hid (below_to HBR.out (below_to ((Below.refl _ wr).alloc (Nat.le_refl _) _) HK7.out.2))⟩, by simp [intOf]; omega⟩
    · obtain rfl : j = ps.length := by omega
      rw [List.take_length]
      have hd : decide ((ps.length : Int) < (ps.length : Int)) = false := by simp
      obtain ⟨v, hv⟩ : ∃ v, sumP ps x = v := ⟨_, rfl⟩
      have hs0 := sumP_bd (ps := ps) hpl.out.2.2.1 x
      rw [hv] at hs0 ⊢
      have hvb : 0 ≤ v ∧ v ≤ 536870912 := by have := hpl.out.2.2.2.1; omega
      have HV := Lib.hid hv
      have hvw : (Lit.int .i64 v).wf = true := by simp [Lit.wf, IntKind.min, IntKind.signed, IntKind.bits]; omega
      obtain ⟨A, c, sp, hfind, hrow, hlook⟩ := HC.out.look hvw
      have HFI := Lib.hid hfind
      have HRW := Lib.hid (own_keep hrow fun k hk => (HBR.out.drew).block k (hrow.lt k (by rw [own_ownA]; exact hk)).2)
      obtain ⟨es, clock, hes, _⟩ := HC.out.mp
      have hmbW : n + 6 < W.heap.size := by omega
      have hes2 := hes
      have hlook2 : ∀ W', W'.heap[n + 6]? = some (.map es clock) → (Instr.lookup 96 (.map (some (n + 6))) (.int .i64 v) false).run Try.prog W' = .ok (.slice A sp.length c) W' := fun W' h => hlook W' (h.trans hes.symm)
      have hc7 := (HBR.out.cell (lt_of_cell (HO.out.cell HK6.out.now.1 (by show n + 7 ≠ n + 6; omega)))).trans (HO.out.cell HK6.out.now.1 (by show n + 7 ≠ n + 6; omega))
      have hm7 := (HBR.out.block (n + 6) hmbW).trans hes
      have hspl : sp.length < 1099511627776 := by
        rcases hfind with ⟨y, hy, rfl⟩ | ⟨_, _, rfl⟩
        · have h1 := congrArg List.length (HC.out.body _ hy)
          simp only [List.length_map] at h1
          have h2 := List.length_filter_le (fun y => sumP ps y == v) (pre.map (·.1))
          rw [List.length_map] at h2
          have h3 := nums_bd hpl.out.1 hpl.out.2.1
          omega
        · simp
      have hzr : m ≤ wr.heap.size := by have := HBR.out.size; omega
      obtain ⟨i0, hi, hz0, hz1, hz2⟩ := info_parts info59
      clear hv hs0 hfind hrow hlook hes
      gi_wp2
      refine region_round_Z 10 (by kernel_rfl) (fun _ _ h => h) (by kernel_rfl) (fun W => W.cell? ⟨n + 6 + 1, 0, none⟩ = some (.map (some (n + 6))) ∧ W.heap[n + 6]? = some (.map es clock)) ⟨hc7, hm7⟩ (fun hHeld => ?_)
      refine wpAnyZ_take (i := 0) (v := ?_) rfl (by kernel_rfl) (by kernel_rfl) (by kernel_rfl) (by kernel_rfl) (fun _ _ _ h => h) (Or.inl ⟨by first | kernel_rfl | rfl, ?_⟩) (by assumption) ?_
      rotate_left
      · intro w hSw; (try dsimp only at hSw); go_simp; (try with_reducible rfl)
      (try simp only [Act.put, List.getElem_toArray, List.getElem_cons_succ, List.getElem_cons_zero, List.setIfInBounds_toArray, List.set_cons_zero, List.set_cons_succ])
      refine wpAnyZ_take (i := 1) (v := ?_) rfl (by kernel_rfl) (by kernel_rfl) (by kernel_rfl) (by kernel_rfl) (fun _ _ _ h => h) (Or.inl ⟨by first | kernel_rfl | rfl, ?_⟩) (by assumption) ?_
      rotate_left
      · intro w hSw; (try dsimp only at hSw); go_simp; (try with_reducible rfl)
      (try simp only [Act.put, List.getElem_toArray, List.getElem_cons_succ, List.getElem_cons_zero, List.setIfInBounds_toArray, List.set_cons_zero, List.set_cons_succ])
      refine wpAnyZ_take (i := 2) (v := ?_) rfl (by kernel_rfl) (by kernel_rfl) (by kernel_rfl) (by kernel_rfl) (fun _ _ _ h => h) (Or.inl ⟨by first | kernel_rfl | rfl, ?_⟩) (by assumption) ?_
      rotate_left
      · intro w hSw; (try dsimp only at hSw); go_simp; (try with_reducible rfl)
      (try simp only [Act.put, List.getElem_toArray, List.getElem_cons_succ, List.getElem_cons_zero, List.setIfInBounds_toArray, List.set_cons_zero, List.set_cons_succ])
      refine wpAnyZ_take (i := 3) (v := ?_) rfl (by kernel_rfl) (by kernel_rfl) (by kernel_rfl) (by kernel_rfl) (fun _ _ _ h => h) (Or.inl ⟨by first | kernel_rfl | rfl, ?_⟩) (by assumption) ?_
      rotate_left
      · intro w hSw; (try dsimp only at hSw); go_simp; (try with_reducible rfl)
      (try simp only [Act.put, List.getElem_toArray, List.getElem_cons_succ, List.getElem_cons_zero, List.setIfInBounds_toArray, List.set_cons_zero, List.set_cons_succ])
      refine wpAnyZ_take (i := 5) (v := ?_) rfl (by kernel_rfl) (by kernel_rfl) (by kernel_rfl) (by kernel_rfl) (fun _ _ _ h => h) (Or.inl ⟨by first | kernel_rfl | rfl, ?_⟩) (by assumption) ?_
      rotate_left
      · intro w hSw; (try dsimp only at hSw); go_simp; (try with_reducible rfl)
      (try simp only [Act.put, List.getElem_toArray, List.getElem_cons_succ, List.getElem_cons_zero, List.setIfInBounds_toArray, List.set_cons_zero, List.set_cons_succ])
      refine wpAnyZ_take (i := 6) (v := ?_) rfl (by kernel_rfl) (by kernel_rfl) (by kernel_rfl) (by kernel_rfl) (fun _ _ _ h => h) (Or.inl ⟨by first | kernel_rfl | rfl, ?_⟩) (by assumption) ?_
      rotate_left
      · intro w hSw; (try dsimp only at hSw); go_simp; (try with_reducible rfl)
      (try simp only [Act.put, List.getElem_toArray, List.getElem_cons_succ, List.getElem_cons_zero, List.setIfInBounds_toArray, List.set_cons_zero, List.set_cons_succ])
      refine wpAnyZ_take (i := 7) (v := ?_) rfl (by kernel_rfl) (by kernel_rfl) (by kernel_rfl) (by kernel_rfl) (fun _ _ _ h => h) (Or.inl ⟨by first | kernel_rfl | rfl, ?_⟩) (by assumption) ?_
      rotate_left
      · intro w hSw; (try dsimp only at hSw); go_simp; (try with_reducible rfl)
      (try simp only [Act.put, List.getElem_toArray, List.getElem_cons_succ, List.getElem_cons_zero, List.setIfInBounds_toArray, List.set_cons_zero, List.set_cons_succ])
      refine wpAnyZ_take (i := 4) (v := .slice A sp.length c) rfl (by kernel_rfl) (by kernel_rfl) (by kernel_rfl) (by kernel_rfl) (fun _ _ _ h => h) (yieldsIf_lookup (by kernel_rfl) rfl rfl rfl (fun w hw => hlook2 w hw.2)) (by assumption) ?_
      (try simp only [Act.put, List.getElem_toArray, List.getElem_cons_succ, List.getElem_cons_zero, List.setIfInBounds_toArray, List.set_cons_zero, List.set_cons_succ])
      clear hlook2
      have hmr : n + 6 < wr.heap.size := by omega
      refine wpAnyZ_ready (i := 8) (by kernel_rfl) rfl (fun K hK => ?_)
      go_simp
      refine hK.out _ _ (⟨cellAlloc _ hc7, (Below.heap_alloc _ _ _ hmr).trans hm7⟩) (fun hHeld => ?_)
      clear hK K
      (try simp only [Act.put, List.getElem_toArray, List.getElem_cons_succ, List.getElem_cons_zero, List.setIfInBounds_toArray, List.set_cons_zero, List.set_cons_succ])
      refine wpAnyZ_ready (i := 9) (by kernel_rfl) rfl (fun K hK => ?_)
      refine step_pushG (w0 := wr.drew) rfl _ _ 26 rfl m 52 i0 _ 2 16 Try.underlying26 hi hz0 hz1 hz2 rfl (by decide) HRW.out rfl [.int .i64 x, .int .i64 x] 52 rfl rfl (by simp [Value.oneCell']) hspl (by decide) hzr ?_
      intro A8 c8 w8 HO8 HG8 HN8
      have hAm : ∀ k, ownA A = some k → m ≤ k := fun k hk => (HRW.out.lt k (by rw [own_ownA]; exact hk)).1
      have hc8 := HG8.out.cell (cellAlloc _ hc7) (fun e => by have h1 := hAm _ e.symm; have h2 : m ≤ n + 7 := h1; omega)
      have hm8 : w8.heap[n + 6]? = some (.map es clock) := (HG8.out.block _ (by simp; omega) (fun e => by have := hAm _ e.symm; omega)).trans ((Below.heap_alloc _ _ _ hmr).trans hm7)
      refine hK.out _ _ (⟨hc8, hm8⟩) (fun hHeld => ?_)
      clear hK K
      (try simp only [Act.put, List.getElem_toArray, List.getElem_cons_succ, List.getElem_cons_zero, List.setIfInBounds_toArray, List.set_cons_zero, List.set_cons_succ])
      obtain ⟨w9, hput, hM9, hG9, hs9⟩ := (HC.out.mp.same (w' := w8) (hm8.trans hes2.symm)).put (Maps.int_keyed Try.underlying3) Try.underlying96 (by rw [List.length_map]; unfold maxLen; omega) (.slice A8 (sp.length + 1) c8) (Maps.keyOf_int_mk Try.underlying3 hvw)
      have e1 : Value.slice A8 (sp.length + 1) c8 = ival ((A8, c8, sp ++ [(x, x)]) : Item Sp) := by unfold ival; simp
      have HPUT := Lib.hid hput
      rw [e1] at hM9
      have HST := Lib.hid (HC.out.step HV.out HBR.out.drew hmW (by omega) HFI.out HO8.out HG8.out HN8.out hM9 hG9)
      obtain ⟨L2, hL2⟩ : ∃ L2, ((v, ((A8, c8, sp ++ [(x, x)]) : Item Sp)) :: L.filter fun y => decide (y.1 ≠ v)) = L2 := ⟨_, rfl⟩
      rw [hL2] at HST
      have hlen2 : L2.length ≤ 4097 := by rw [← hL2]; exact Nat.succ_le_succ (Nat.le_trans (List.length_filter_le _ _) hL)
      have hln := HST.out.1.mp.len (ty := 3) Try.underlying96
      rw [List.length_map] at hln
      have hc9 := hG9.cell hc8 (fun e => by injection e with e; have h2 : n + 6 + 1 = n + 6 := e; omega)
      clear hM9 hG9 hput hL2 e1
      refine wpAnyZ_last (i := 10) rfl (by kernel_rfl) (by kernel_rfl) rfl (fun K hK => ?_)
      rw [if_pos (by rfl)]
      refine wp_mapUpdate rfl rfl rfl rfl HPUT.out ?_
      refine hK.out _ _ ?_
      clear hK K hHeld
      by_cases hbig : 4096 < L2.length
      · have hbg : (L2.length : Int) > 4096 := by omega
        have hcv : 4096 < cnt vs := by
          have h1 := HST.out.1.few hv.out.1 (fun y hy => by
            rcases List.mem_append.1 hy with hy | hy
            · obtain ⟨z, _, rfl⟩ := List.mem_map.1 hy
              exact (hv.out.2 _).2 ⟨z.1, (nums_mem g _).1 z.2, rfl⟩
            · obtain rfl := List.mem_singleton.1 hy
              exact (hv.out.2 _).2 ⟨_, HXG.out, rfl⟩)
          omega
        have hO9 := HST.out.2.2.2 w6 HO.out (by omega)
        have h6 := HK6.out.now.2.2.2.1
        have hx4 := hO9.cell h6.2.2.1.1 (by show n + 1 + 1 ≠ n + 6; omega)
        have hf4 := (hO9.frozen h6.2.2.1.1 (by show n + 1 + 1 ≠ n + 6; omega)).trans h6.2.2.1.2
        have hx5 := hO9.cell h6.2.2.2.1 (by show n + 1 + 1 + 1 ≠ n + 6; omega)
        have hf5 := (hO9.frozen h6.2.2.2.1 (by show n + 1 + 1 + 1 ≠ n + 6; omega)).trans h6.2.2.2.2
        have hB9 : Below w.heap.size w w9 := HBN.out.trans (hO9.below (B := w.heap.size) (by omega) (by simp) (by omega))
        have HB9 := Lib.hid hB9
        have HX45 := Lib.hid (And.intro hx4 hx5)
        have hne45 : ¬ n + 1 + 1 = n + 1 + 1 + 1 := by omega
        clear h6 hO9 hB9
        gi_wp2
        refine ⟨(HST.out.2.2.1 _ (by omega)).trans ((KeepsOthers.from ((KeepsOthers.setCell w9 ⟨n + 1 + 1, 0, none⟩ (.slice none 0 0)).trans (KeepsOthers.setCell _ ⟨n + 1 + 1 + 1, 0, none⟩ (.bool false)))) _), ⟨rfl, hcv⟩, ⟨?_, ?_⟩, (HB9.out.setCell (p := ⟨n + 1 + 1, 0, none⟩) (by show w.heap.size ≤ n + 1 + 1; omega) _).setCell (p := ⟨n + 1 + 1 + 1, 0, none⟩) (by show w.heap.size ≤ n + 1 + 1 + 1; omega) _⟩
        · rw [World.cell?_setCell_far _ _ _ _ (by show n + 1 + 1 + 1 ≠ n + 1 + 1; omega)]
          exact World.cell?_setCell_same' _ _ _ (by rw [HX45.out.1]; rfl)
        · refine World.cell?_setCell_same' _ _ _ ?_
          rw [World.cell?_setCell_far _ _ _ _ (by show n + 1 + 1 ≠ n + 1 + 1 + 1; omega), HX45.out.2]; rfl
      · have hbg : ¬ (L2.length : Int) > 4096 := by omega
        gi_wp2
        refine ⟨HST.out.2.2.1 _ (by omega), HST.out.2.1, ⟨L2, ?_, by omega⟩, by simp; omega, HST.out.2.2.2 w6 HO.out (by omega)⟩
        show MapC _ _ _ ((pre ++ [xs]).map (fun x => x.1)) L2 w9
        rw [List.map_append]
        have h := HST.out.1
        rw [← HXE.out] at h
        exact h
  case done =>
    rintro D ys W hD hys ⟨⟨L, hC, hL⟩, hlen1, hO⟩ hKD
    have hys2 : ys.map (fun x => x.1) = nums g := hys
    rw [hys2] at hC
    have HC := Lib.hid hC
    have HO := Lib.hid hO
    have HKD := Lib.hid hKD
    have HBW := Lib.hid (HBN.out.trans (hO.below (B := w.heap.size) (by omega) (by simp) (by omega)))
    have h6 := HK6.out.now
    have hc7 := hO.cell h6.1 (by show n + 7 ≠ n + 6; omega)
    obtain ⟨W1, hrun, hrng, hb1, hs1⟩ := hC.mp.rng Try.underlying96
    have hmW : m ≤ W.heap.size := by have := hO.size; omega
    have HR1 := Lib.hid hrng
    have HB1 := Lib.hid hb1
    have HS1w := Lib.hid hs1
    clear hys hys2 hC hO hKD h6 hrng hb1 hs1
    go_wp2_with fail
    obtain ⟨rb, hrb⟩ : ∃ rb, W.heap.size = rb := ⟨_, rfl⟩
    rw [hrb]
    go_loopw [18] (fun ov wr => ∃ (R : List (Value × Value)) (O : List Ch) (A : Option Addr) (c : Nat), ov = .slice A O.length c ∧ Hid (MapRng Try.prog 3 (n + 6) rb R wr) ∧ Hid (ChRow (rb + 1) A c O wr) ∧ Hid (Below rb W wr) ∧ Hid (OutC L R O)) (fun _ wr => mLeft Try.prog 3 (n + 6) rb wr)
    case atStart => exact ⟨_, [], none, 0, rfl, Lib.hid (by rw [← hrb]; exact HR1.out), Lib.hid ⟨World.ownsRow_nil _ _ _ _, fun x hx => by cases hx⟩, Lib.hid (by rw [← hrb]; exact HB1.out), Lib.hid (OutC.start L)⟩
    case round =>
    obtain ⟨R, O, A, c, rfl, HRN, HCH, HBR, HOI⟩ := hrel
    rcases HRN.out.next 0 with ⟨rfl, hnx⟩ | ⟨p, R', w', hperm, hnx, hrn2, hgr, hsz, hen⟩
    · have hne : 1 ≤ O.length := by
        obtain ⟨p, g', rfl⟩ : ∃ p g', g = p :: g' := by
          cases g with
          | nil => exact absurd rfl hpl.out.2.2.2.2.2
          | cons p g' => exact ⟨p, g', rfl⟩
        have hp0 : InS (p :: g') p.1 := (InS_iff _ _).2 ⟨p, List.mem_cons_self .., Int.le_refl _, hpl.out.1.2.1⟩
        obtain ⟨x, hx, _⟩ := HC.out.all _ ((nums_mem _ _).2 hp0)
        rcases HOI.out.cov x hx with h1 | h1
        · cases h1
        · have := List.length_pos_of_mem h1
          rw [List.length_map] at this
          omega
      have hval : ∀ o ∈ O, 0 ≤ o.1 ∧ o.1 ≤ 1099511627776 := fun o ho => by
        obtain ⟨x, hx, he, _⟩ := HOI.out.src (chV o) (List.mem_map.2 ⟨o, ho, rfl⟩)
        obtain ⟨y, _, hyv⟩ := HC.out.has x hx
        have e1 : o.1 = x.1 := by
          have h5 : (chV o).1 = x.1 := by rw [he]
          exact h5
        have := sumP_bd hpl.out.2.2.1 y
        have := hpl.out.2.2.2.1
        rw [e1, ← hyv]; omega
      have hOL : O.length ≤ L.length := by
        have h1 := nodup_le HOI.out.keys (m := L.map (·.1)) (fun v hv => by
          obtain ⟨o, ho, rfl⟩ := List.mem_map.1 hv
          obtain ⟨y, hy, he, _⟩ := HOI.out.src (chV o) (List.mem_map.2 ⟨o, ho, rfl⟩)
          exact List.mem_map.2 ⟨y, hy, (congrArg Prod.fst he).symm⟩)
        simpa using h1
      obtain ⟨l, hl⟩ : ∃ l : List ChS, l.map (·.1) = O := ⟨O.pmap (fun x h => ⟨x, h⟩) hval, by rw [List.map_pmap]; simp⟩
      have hll : l.length = O.length := by rw [← hl, List.length_map]
      obtain ⟨gA, hA⟩ : ∃ gA, A = some ⟨gA, 0, none⟩ := by
        rcases HCH.out.own.2 with ⟨e, _⟩ | ⟨g', cap, cur, e, _⟩
        · injection e with e1 e2; omega
        · injection e with e1; exact ⟨g', e1⟩
      subst hA
      have HSO := Lib.hid (SortCh_any (rb + 1) gA c l wr (by have h := HCH.out.own; rw [hll, hl]; exact h) (by omega))
      rw [hll] at HSO
      have hOlt : O.length ≤ 4096 := by omega
      go_wp2_with fail
      refine HSO.out.mono ?_
      rintro e w7 ⟨rfl, l', hl', hperm, hpw, hown, hg7⟩
      have hp2 : (l'.map (·.1)).Perm O := by rw [← hl]; exact hperm.map (·.1)
      have HEQ := Lib.hid (HOI.out.done (fun x hx => HC.out.body x hx) HC.out.all HC.out.has hpl.out.2.1 hv.out hp2 (by rw [List.pairwise_map]; exact hpw))
      have hlen' : (l'.map (·.1)).length = O.length := by rw [List.length_map]; omega
      have HRO : Hid (ChRow (rb + 1) (some ⟨gA, 0, none⟩) c (l'.map (·.1)) w7) := Lib.hid ⟨by rw [hlen']; exact hown, fun x hx => by
        have h1 := HCH.out.sets x (hp2.mem_iff.1 hx)
        exact ⟨own_keep h1.1 fun k hk => hg7.block k (h1.1.lt k (by rw [own_ownA]; exact hk)).2 (fun e => h1.2 k hk e.symm), h1.2⟩⟩
      have hlA := (HCH.out.own.lt gA rfl).1
      have HB7 : Hid (Below rb W w7) := Lib.hid (HBR.out.grown hg7 (by rw [← hrb]; exact HBR.out.size) (fun k e => by injection e with e; omega))
      have hrr : rr = some ((l'.map (·.1)).map chV) := by
        have h1 := congrArg List.length HEQ.out
        simp only [List.length_map] at h1 hlen'
        have h2 := nums_length hv.out.1
        rw [hr.out, if_neg (by omega), HEQ.out]
      have HRR := Lib.hid hrr
      have HLE := Lib.hid hlen'
      have h6 := HK6.out.now.2.2.2.1
      have hlt2 : ∀ {p : Addr} {v : Value}, w6.cell? p = some v → p.block ≠ n + 6 → w7.cell? p = some v := fun h hp => (HB7.out.cell (by rw [← hrb]; exact World.block_lt_of_cell? _ _ (HO.out.cell h hp))).trans (HO.out.cell h hp)
      have hfz2 : ∀ {p : Addr} {v : Value}, w6.cell? p = some v → p.block ≠ n + 6 → w7.frozen? p = w6.frozen? p := fun h hp => (HB7.out.frozen (by rw [← hrb]; exact World.block_lt_of_cell? _ _ (HO.out.cell h hp))).trans (HO.out.frozen h hp)
      have hx4 := hlt2 h6.2.2.1.1 (by show n + 1 + 1 ≠ n + 6; omega)
      have hf4 := (hfz2 h6.2.2.1.1 (by show n + 1 + 1 ≠ n + 6; omega)).trans h6.2.2.1.2
      have hx5 := hlt2 h6.2.2.2.1 (by show n + 1 + 1 + 1 ≠ n + 6; omega)
      have hf5 := (hfz2 h6.2.2.2.1 (by show n + 1 + 1 + 1 ≠ n + 6; omega)).trans h6.2.2.2.2
      have HX45 := Lib.hid (And.intro hx4 hx5)
      have hne45 : ¬ n + 1 + 1 = n + 1 + 1 + 1 := by omega
      clear hl' hperm hpw hown hg7 hp2 hlen' hrr h6 hlt2 hfz2 hl hll HSO hval hne
      go_wp2_with fail
      have hbX : Below rb w7 ((w7.setCell ⟨n + 1 + 1, 0, none⟩ (.slice (some ⟨gA, 0, none⟩) O.length c)).setCell ⟨n + 1 + 1 + 1, 0, none⟩ (.bool true)) → True := fun _ => trivial
      have hD7 : w7.heap[D]? = some (.deferred (some [])) := (HB7.out.block D (by rw [← hrb]; exact (Array.getElem?_eq_some_iff.1 HKD.out).1)).trans HKD.out
      have hK' := ((KeepsOthers.setCell w7 ⟨n + 1 + 1, 0, none⟩ (.slice (some ⟨gA, 0, none⟩) O.length c)).trans (KeepsOthers.setCell _ ⟨n + 1 + 1 + 1, 0, none⟩ (.bool true))).same D _ hD7 rfl
      have hq1 : ((w7.setCell ⟨n + 1 + 1, 0, none⟩ (.slice (some ⟨gA, 0, none⟩) O.length c)).setCell ⟨n + 1 + 1 + 1, 0, none⟩ (.bool true)).cell? ⟨n + 1 + 1, 0, none⟩ = some (.slice (some ⟨gA, 0, none⟩) O.length c) := by
        rw [World.cell?_setCell_far _ _ _ _ (by show n + 1 + 1 + 1 ≠ n + 1 + 1; omega)]
        exact World.cell?_setCell_same' _ _ _ (by rw [HX45.out.1]; rfl)
      have hq2 : ((w7.setCell ⟨n + 1 + 1, 0, none⟩ (.slice (some ⟨gA, 0, none⟩) O.length c)).setCell ⟨n + 1 + 1 + 1, 0, none⟩ (.bool true)).cell? ⟨n + 1 + 1 + 1, 0, none⟩ = some (.bool true) := by
        refine World.cell?_setCell_same' _ _ _ ?_
        rw [World.cell?_setCell_far _ _ _ _ (by show n + 1 + 1 ≠ n + 1 + 1 + 1; omega), HX45.out.2]; rfl
      have hbE : Below w.heap.size w ((w7.setCell ⟨n + 1 + 1, 0, none⟩ (.slice (some ⟨gA, 0, none⟩) O.length c)).setCell ⟨n + 1 + 1 + 1, 0, none⟩ (.bool true)) := ((HBW.out.trans (HB7.out.mono (by have := HBW.out.size; omega))).setCell (p := ⟨n + 1 + 1, 0, none⟩) (by show w.heap.size ≤ n + 1 + 1; omega) _).setCell (p := ⟨n + 1 + 1 + 1, 0, none⟩) (by show w.heap.size ≤ n + 1 + 1 + 1; omega) _
      have hrow : ChRow (rb + 1) (some ⟨gA, 0, none⟩) c (l'.map (·.1)) ((w7.setCell ⟨n + 1 + 1, 0, none⟩ (.slice (some ⟨gA, 0, none⟩) O.length c)).setCell ⟨n + 1 + 1 + 1, 0, none⟩ (.bool true)) := HRO.out.keep fun k hk _ =>
        (heap_setCell_other _ _ _ _ (fun e => by have e2 : k = n + 1 + 1 + 1 := e; omega)).trans (heap_setCell_other _ _ _ _ (fun e => by have e2 : k = n + 1 + 1 := e; omega))
      clear hbX
      obtain ⟨W2, hW2⟩ : ∃ W2, (w7.setCell ⟨n + 1 + 1, 0, none⟩ (.slice (some ⟨gA, 0, none⟩) O.length c)).setCell ⟨n + 1 + 1 + 1, 0, none⟩ (.bool true) = W2 := ⟨_, rfl⟩
      rw [hW2] at hK' hq1 hq2 hbE hrow ⊢
      clear hW2
      have hg := grownBy_putObj' W2 D (.deferred none)
      have hrrD : ∀ r, some D = some r → ∃ o : Obj, W2.heap[r]? = some o ∧ o.isCells = false := fun r e => by cases e; exact ⟨_, hK', rfl⟩
      have hc5 := cell_kept hq1 hg hrrD
      have hc6 := cell_kept hq2 hg hrrD
      have hbF : Below w.heap.size w (W2.putObj D (.deferred none)) := hbE.grown hg hbE.size (fun k e => by cases e; have := HBN.out.size; omega)
      refine ⟨by simp, .inl ⟨_, _, rfl, run_takeDeferred hK', ?_⟩⟩
      refine ⟨.tuple #[.slice (some ⟨gA, 0, none⟩) O.length c, .bool true], by simp [results, Try.f56, go_sem, hc5, hc6], Lib.hid hbF, Lib.hid (hK0.out.step hbF), .inr ⟨some ⟨gA, 0, none⟩, c, l'.map (·.1), HRR.out, by rw [HLE.out], Lib.hid ?_⟩⟩
      refine ((hrow.turn hg hrrD).dep (fun y hy => ?_) (by have := HLE.out; omega)).mono fun k hk _ => by have := HBW.out.size; omega
      have h1 : chV y ∈ (l'.map (·.1)).map chV := List.mem_map.2 ⟨y, hy, rfl⟩
      rw [HEQ.out] at h1
      obtain ⟨v, _, hv2⟩ := List.mem_map.1 h1
      have h2 : y.2.2.2 = plL (fun x => InS g x ∧ sumP ps x = v) := congrArg Prod.snd hv2.symm
      rw [h2]
      exact (plL_rep (rep_sub hpl.out.1 _ fun z hz => hz.1)).1
    · obtain ⟨⟨xv, xa, xc, xl⟩, hx, hxp⟩ := HOI.out.rest p (hperm.mem_iff.2 (List.mem_cons_self ..))
      have HXL := Lib.hid hx
      have HXP := Lib.hid hxp
      have hW' : Below rb W w' := by
        have h1 := HBR.out
        exact ⟨hgr.os.trans h1.os, hgr.tape.trans h1.tape, hgr.output.trans h1.output, Nat.le_trans h1.size hgr.size, fun k hk => (hgr.block k (by have := h1.size; omega) (fun e => by injection e with e; omega)).trans (h1.block k hk)⟩
      have HW' := Lib.hid hW'
      have hbody := HC.out.body _ hx
      have hrowx := HC.out.sets _ hx
      have hwd : SpW xl := fun q hq => by
        simp only at hbody
        rw [hbody] at hq
        obtain ⟨y, hy, rfl⟩ := List.mem_map.1 hq
        have := hpl.out.2.1 y ((nums_mem g y).1 (List.mem_filter.1 hy).1)
        simp only; omega
      have hxll : xl.length < 137438953472 := by
        simp only at hbody
        rw [hbody, List.length_map]
        have := List.length_filter_le (fun y => sumP ps y == xv) (nums g)
        have := nums_bd hpl.out.1 hpl.out.2.1
        omega
      have HKL : Hid (St w' w' (Lst xa xl)) := Lib.hid (St.start fun V hV => ⟨SRow.spans (own_keep hrowx fun k hk => (hV.block k (by have := (hrowx.lt k (by rw [own_ownA]; exact hk)).2; have := hW'.size; omega)).trans (hW'.block k (by have := (hrowx.lt k (by rw [own_ownA]; exact hk)).2; omega))), hwd, by omega⟩)
      obtain ⟨r0, hr0⟩ := rep_norm xl
      have HRP : Hid (Rep (plL (Mem xl)) (Mem xl)) := Lib.hid (plL_rep ⟨r0, hr0⟩)
      obtain ⟨r, hr5⟩ : ∃ r, plL (Mem xl) = r := ⟨_, rfl⟩
      rw [hr5] at HRP
      have HR5 := Lib.hid hr5
      subst hxp
      simp only [chP, ival] at hnx hen
      have HPERM := Lib.hid hperm
      have HRN2 := Lib.hid hrn2
      have HGR := Lib.hid hgr
      have HSZ := Lib.hid hsz
      clear hbody hrowx hwd hxll hr0 hr5 hW' hx hperm hrn2 hgr hsz
      go_wp2_with fail
      refine (Norm_stN HKL (fun _ h => h) xc HRP).mono ?_
      rintro e w2 ⟨A5, c5, rfl, HO5, HK5, HB5⟩
      have HCH1 : Hid (ChRow (rb + 1) A c O w') := Lib.hid (HCH.out.keep fun k hk hl => HGR.out.block k hl (fun e => by injection e with e; omega))
      have HOC : Hid (w2.ownsRow (rb + 1) 88 2 (.slice A O.length c) O.length (O.flatMap chC)) := Lib.hid (own_keep HCH1.out.own fun k hk => HB5.out.block k (HCH1.out.own.lt k (by rw [own_ownA]; exact hk)).2)
      have hrbw : rb + 1 ≤ w'.heap.size := by have h1 := HRN2.out; obtain ⟨_, _, _, _, _, _, _, h2, _⟩ := h1; have := (Array.getElem?_eq_some_iff.1 h2).1; omega
      have hz5 : rb + 1 ≤ w2.heap.size := Nat.le_trans hrbw HB5.out.size
      have hl40 : O.length < 1099511627776 := by
        have h1 := nodup_le HOI.out.keys (m := L.map (·.1)) (fun v hv => by
          obtain ⟨o, ho, rfl⟩ := List.mem_map.1 hv
          obtain ⟨y, hy, he, _⟩ := HOI.out.src (chV o) (List.mem_map.2 ⟨o, ho, rfl⟩)
          exact List.mem_map.2 ⟨y, hy, (congrArg Prod.fst he).symm⟩)
        simp only [List.length_map] at h1
        omega
      obtain ⟨i0, hi, hz0, hz1, hz2⟩ := info_parts infoCh
      go_wp2_with (at_builtin; go_must (refine wpList_pushG rfl _ _ 84 rfl (rb + 1) 88 i0 _ 2 32 Try.underlying84 hi hz0 hz1 hz2 rfl (by decide) HOC.out rfl [.int .i64 xv, .slice A5 r.length c5] 88 rfl rfl (by simp [Value.oneCell']) hl40 (by decide) hz5 ?_); intro A9 c9 w9 HO9 HG9 HN9)
      have hlA : ∀ k, ownA A = some k → rb + 1 ≤ k := fun k hk => (HOC.out.lt k (by rw [own_ownA]; exact hk)).1
      have hk9 : ∀ k, k < w'.heap.size → k ≤ rb → w9.heap[k]? = w'.heap[k]? := fun k hk hkr => (HG9.out.block k (by have := HB5.out.size; simp; omega) (fun e => by have := hlA k e.symm; omega)).trans ((Below.heap_alloc _ _ _ (by have := HB5.out.size; omega)).trans (HB5.out.block k hk))
      have hml := mLeft_eq HRN.out
      have hR9 : MapRng Try.prog 3 (n + 6) rb R' w9 := HRN2.out.same (hk9 _ (by omega) (by omega)) (hk9 _ (by omega) (Nat.le_refl _))
      have hml9 := mLeft_eq hR9
      have hpl9 := HPERM.out.length_eq
      exact ⟨⟨R', O ++ [(xv, (A5, c5, r))], A9, c9, by simp, Lib.hid hR9, Lib.hid (HCH1.out.push (s := (A5, c5, r)) HB5.out (own_base HO5.out hrbw) (fun g hg => (HO5.out.lt g (by rw [own_ownA]; exact hg)).1) HO9.out HG9.out HN9.out),
        Lib.hid (((HW'.out.trans (HB5.out.mono (by omega))).alloc (by have := HW'.out.size; have := HB5.out.size; omega) _).grown HG9.out (by simp; omega) (fun k hk => by have := hlA k hk; omega)),
        Lib.hid (HOI.out.next HPERM.out (by obtain ⟨_, _, _, _, _, _, _, _, _, _, _, h, _⟩ := HRN.out; exact h) HC.out.keys HXL.out rfl HR5.out.symm)⟩, by rw [hml, hml9, hpl9]; simp⟩
  case stop =>
    rintro D cd pre W hD _ ⟨⟨rfl, hbig⟩, ⟨hx4, hx5⟩, hbW⟩ hKD
    obtain rfl : rr = none := by rw [hr.out, if_pos hbig]
    go_wp2_with fail
    have hg := grownBy_putObj' W D (.deferred none)
    have hrrD : ∀ r, some D = some r → ∃ o : Obj, W.heap[r]? = some o ∧ o.isCells = false := fun r e => by cases e; exact ⟨_, hKD, rfl⟩
    have hc5 := cell_kept hx4 hg hrrD
    have hc6 := cell_kept hx5 hg hrrD
    have hbF : Below w.heap.size w (W.putObj D (.deferred none)) := hbW.grown hg hbW.size (fun k e => by cases e; have := HBN.out.size; omega)
    refine ⟨by simp, .inl ⟨_, _, rfl, run_takeDeferred hKD, ?_⟩⟩
    exact ⟨.tuple #[.slice none 0 0, .bool false], by simp [results, Try.f56, go_sem, hc5, hc6], Lib.hid hbF, Lib.hid (hK0.out.step hbF), .inl ⟨rfl, rfl⟩⟩
end
end Go.Proofs.Ytpmhdjiacgckjaa
end
