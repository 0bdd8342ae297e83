/- Contract of table's (*maker).act, the walk. Condition: the maker and the description are known. Words for the maker's ends; what is known of the maker's rows. Condition: none. Contract of table's (*maker).end, the walk. Condition: the maker and the description are known. -/
import Derived.Test.YtlmkokeapbleoaaGreatT08
set_option maxRecDepth 100000
set_option maxHeartbeats 64000000
set_option linter.unusedVariables false
set_option linter.unusedSimpArgs false
section
namespace Go.Proofs.YtlmkokeapbleoaaGreat
open Go.RowKit
theorem infoActM : (Tryz.prog.info? 59).map (fun i => (i.zero, i.size, i.bytes)) = some (some (.agg #[.int .i64 0, .int .i64 0, .slice none 0 0]), 3, 40) := by kernel_rfl
theorem own_fz {W : World} {m sz n c b : Nat} {et : TypeId} {xs : List Value} (h : W.ownsRow m et sz (.slice (some ⟨b, 0, none⟩) n c) n xs) (j : Nat) : W.frozen? ⟨b, j, none⟩ = false := by
  obtain ⟨_, _, cur, e⟩ := own_ty h (k := b) rfl
  simp [World.frozen?, e]
theorem own_some {W : World} {m sz n c : Nat} {et : TypeId} {A : Option Addr} {xs : List Value} (h : W.ownsRow m et sz (.slice A n c) n xs) (hn : 0 < n) : ∃ b, A = some ⟨b, 0, none⟩ := by
  rcases h.2 with ⟨e, e2⟩ | ⟨g, cap, cur, e, _⟩
  · omega
  · injection e with e; exact ⟨g, e⟩
theorem act_mk (W : World) (B : MkB) (V : MkV) (S : LayS) (hM : Hid (Mk B V W)) (hS : Hid (Lays B V S)) (hD : Hid (∀ W', Below B.n W W' → DescW B.d W')) (i : Nat) (r : RuleI) (hr : Hid (B.d.rs[i]? = some r)) (hi : i < 1048576) (hpl : V.ps.length ≤ 1000000) (hal : V.acs.length ≤ 1048576)
    (hout : r.o.l.length ≤ 1048576) (hps : Hid (∀ t ∈ r.o.l, t.ps.length ≤ 1048576)) :
    Calls Tryz.prog 127 #[.pointer (some ⟨B.mb, 0, none⟩), .int .i64 (i : Int)] W (RetLay B V (putA B S i) ((putA B S i).acts.idxOf i : Nat) W) := by
  have hi64 : I64 (i : Int) := by unfold I64; omega
  have hlk := idxM_look hM.out.am i hi64 W rfl
  have hm11 := hM.out.clo (i := 11) (by decide) rfl
  have HSA := Lib.hid hS.out.acts
  by_cases hm : i ∈ V.acs.map (·.1)
  · have hPA : putA B S i = S := by unfold putA; rw [if_pos (by rw [← hS.out.acts]; exact hm)]
    have HPA := Lib.hid hPA
    rw [if_pos hm] at hlk
    rw [show decide (i ∈ V.acs.map (·.1)) = true by simpa using hm] at hlk
    clear hm hPA
    go_enter Tryz.func127, Tryz.ntmps127
    go_wp2_with fail
    go_ret
    exact ⟨V, by rw [HPA.out, ← HSA.out]; rfl, hM, Lib.hid (MkF.refl _ _ _), by rw [HPA.out]; exact hS, rfl⟩
  have hPA : putA B S i = { S with ps := putL S.ps (r.dst, []), acts := S.acts ++ [i] } := by
    unfold putA; rw [if_neg (by rw [← hS.out.acts]; exact hm), hr.out]; rfl
  have HPA := Lib.hid hPA
  have HNM := Lib.hid hm
  rw [if_neg hm] at hlk
  rw [show decide (i ∈ V.acs.map (·.1)) = false by simpa using hm] at hlk
  obtain ⟨rb, off, r', hA, hx, hw, hd0, hd1, hd2, hd3, hd4⟩ := (hD.out W (Below.refl _ _)).rules.at_ (j := i) (List.getElem?_eq_some_iff.1 hr.out).1
  obtain rfl : r = r' := by have := hr.out; rw [this] at hx; exact Option.some.inj hx
  have hm4 := hM.out.clo (i := 4) (by decide) rfl
  rw [hA] at hm4
  have hilt : (i : Int) < (B.d.rs.length : Int) := by have := (List.getElem?_eq_some_iff.1 hr.out).1; omega
  have hi0 : (0 : Int) ≤ (i : Int) := by omega
  obtain ⟨wA, hwA⟩ : ∃ z, W.alloc (.cells #[.int .i64 r.fr, .int .i64 r.dst, .slice r.ga r.gs.length r.gc, .int .i64 r.e, .slice r.o.a r.o.l.length r.o.c] 102) = z := ⟨_, rfl⟩
  have hbA : Below W.heap.size W wA := by rw [← hwA]; exact (Below.refl _ _).alloc (Nat.le_refl _) _
  have hxA : wA.heap[W.heap.size]? = some (.cells #[.int .i64 r.fr, .int .i64 r.dst, .slice r.ga r.gs.length r.gc, .int .i64 r.e, .slice r.o.a r.o.l.length r.o.c] 102 (0, 0)) := by rw [← hwA]; exact heap_alloc_new W _
  have HBA := Lib.hid hbA
  have HXA := Lib.hid hxA
  have HMA := Lib.hid (hM.out.below hbA)
  have hm270 := HMA.out.chi (j := 1) rfl
  have hmA11 := HMA.out.clo (i := 11) (by decide) rfl
  obtain ⟨wB, hrun, hMB, hGB, hSB⟩ := idxM_put HMA.out.am i hi64 hm (by rw [List.length_map]; exact hal)
  rw [List.length_map] at hrun
  have HMB := Lib.hid hMB
  have HGB := Lib.hid hGB
  have HSB := Lib.hid hSB
  have HW := Lib.hid hw
  have HI64 := Lib.hid hi64
  clear hbA hxA hx hw hm hPA hMB hGB hSB hi64
  go_enter Tryz.func127, Tryz.ntmps127
  go_wp2_with fail
  have hAB : ∀ k, k < wA.heap.size → k ≠ B.ab → wB.heap[k]? = wA.heap[k]? := fun k hk hn => HGB.out.block k hk (fun e => hn (by injection e))
  have HAB := Lib.hid hAB
  have hmn : B.mb ≠ B.ab := cells_ne_map HMA.out.box HMA.out.am
  have hWA : W.heap.size < wA.heap.size := (Array.getElem?_eq_some_iff.1 HXA.out).1
  have hWn : W.heap.size ≠ B.ab := fun e => by have := hM.out.am.lt; omega
  obtain ⟨w4, hw4⟩ : ∃ z, wB.drew = z := ⟨_, rfl⟩
  have hh4 : w4.heap = wB.heap := by rw [← hw4]; rfl
  have HH4 := Lib.hid hh4
  have hb4m : w4.heap[B.mb]? = some (.cells (mkCells B V).toArray 143 (0, 0)) := by rw [hh4, hAB _ HMA.out.mlt hmn]; exact HMA.out.box
  have hb4x : w4.heap[W.heap.size]? = some (.cells #[.int .i64 r.fr, .int .i64 r.dst, .slice r.ga r.gs.length r.gc, .int .i64 r.e, .slice r.o.a r.o.l.length r.o.c] 102 (0, 0)) := by rw [hh4, hAB _ hWA hWn]; exact HXA.out
  have h270 : ∀ w' : World, w'.heap[B.mb]? = w4.heap[B.mb]? → w'.cell? ⟨B.mb, 270, none⟩ = some (.slice V.aa V.acs.length V.ac) := fun w' h => by
    have h2 := h.trans hb4m
    have h3 := mkCells_hi B V hM.out.cl 1
    simp only [World.cell?, h2]
    simpa [mkTail] using h3
  have hx5 : ∀ w' : World, w'.heap[W.heap.size]? = w4.heap[W.heap.size]? → w'.cell? ⟨W.heap.size, 3, none⟩ = some (.int .i64 r.e) ∧ w'.cell? ⟨W.heap.size, 4, none⟩ = some (.slice r.o.a r.o.l.length r.o.c) ∧ w'.cell? ⟨W.heap.size, 1, none⟩ = some (.int .i64 r.dst) := fun w' h => by
    have h2 := h.trans hb4x
    refine ⟨?_, ?_, ?_⟩ <;> simp [World.cell?, h2]
  have hs4 : w4.heap.size = wA.heap.size := by rw [hh4]; exact HSB.out
  have hbel4 : Below B.n W w4 := by
    rw [← hw4]
    exact ((HBA.out.mono hM.out.nle).grown HGB.out HMA.out.nle (fun k hk => by injection hk with hk; rw [← hk]; exact HMA.out.lo.2.2.1)).drew
  have HBEL4 := Lib.hid hbel4
  have H270 := Lib.hid h270
  have HX5 := Lib.hid hx5
  have HS4 := Lib.hid hs4
  have HB4M := Lib.hid hb4m
  have HTO : Hid (TermsAt r.o.a r.o.l w4) := Lib.hid ((hD.out w4 hbel4).rules.it r (List.mem_of_getElem? hr.out)).2.2
  have h4a := h270 w4 rfl
  have h4b := hx5 w4 rfl
  have HMN := Lib.hid (And.intro hmn hWn)
  clear hAB hh4 hb4m hb4x h270 hx5 hs4 hbel4 hmn hWn
  refine wp_region_Z 17 (by kernel_rfl) (fun V' => V'.cell? ⟨B.mb, 270, none⟩ = some (.slice V.aa V.acs.length V.ac) ∧ V'.cell? ⟨W.heap.size, 3, none⟩ = some (.int .i64 r.e) ∧ V'.cell? ⟨W.heap.size, 4, none⟩ = some (.slice r.o.a r.o.l.length r.o.c)) (by rw [hw4]; exact ⟨h4a, h4b.1, h4b.2.1⟩) (fun hHeld => ?_)
  refine wpAnyZ_take (i := 0) (v := ?_) rfl (by kernel_rfl) (by kernel_rfl) (by kernel_rfl) (by kernel_rfl) (fun _ _ _ h => h) (Or.inl ⟨by first | kernel_rfl | rfl, ?_⟩) (by assumption) ?_
  rotate_left
  · intro w hSw; (try dsimp only at hSw); go_simp; (try with_reducible rfl)
  (try simp only [Act.put, List.getElem_toArray, List.getElem_cons_succ, List.getElem_cons_zero, List.setIfInBounds_toArray, List.set_cons_zero, List.set_cons_succ])
  refine wpAnyZ_take (i := 1) (v := ?_) rfl (by kernel_rfl) (by kernel_rfl) (by kernel_rfl) (by kernel_rfl) (fun _ _ _ h => h) (Or.inl ⟨by first | kernel_rfl | rfl, ?_⟩) (by assumption) ?_
  rotate_left
  · intro w hSw; (try dsimp only at hSw); go_simp; (try with_reducible rfl)
  (try simp only [Act.put, List.getElem_toArray, List.getElem_cons_succ, List.getElem_cons_zero, List.setIfInBounds_toArray, List.set_cons_zero, List.set_cons_succ])
  refine wpAnyZ_take (i := 2) (v := ?_) rfl (by kernel_rfl) (by kernel_rfl) (by kernel_rfl) (by kernel_rfl) (fun _ _ _ h => h) (Or.inl ⟨by first | kernel_rfl | rfl, ?_⟩) (by assumption) ?_
  rotate_left
  · intro w hSw; (try dsimp only at hSw); go_simp; (try with_reducible rfl)
  (try simp only [Act.put, List.getElem_toArray, List.getElem_cons_succ, List.getElem_cons_zero, List.setIfInBounds_toArray, List.set_cons_zero, List.set_cons_succ])
  refine wpAnyZ_take (i := 3) (v := ?_) rfl (by kernel_rfl) (by kernel_rfl) (by kernel_rfl) (by kernel_rfl) (fun _ _ _ h => h) (Or.inl ⟨by first | kernel_rfl | rfl, ?_⟩) (by assumption) ?_
  rotate_left
  · intro w hSw; (try dsimp only at hSw); go_simp; (try with_reducible rfl)
  (try simp only [Act.put, List.getElem_toArray, List.getElem_cons_succ, List.getElem_cons_zero, List.setIfInBounds_toArray, List.set_cons_zero, List.set_cons_succ])
  refine wpAnyZ_take (i := 4) (v := ?_) rfl (by kernel_rfl) (by kernel_rfl) (by kernel_rfl) (by kernel_rfl) (fun _ _ _ h => h) (Or.inl ⟨by first | kernel_rfl | rfl, ?_⟩) (by assumption) ?_
  rotate_left
  · intro w hSw; (try dsimp only at hSw); go_simp; (try with_reducible rfl)
  (try simp only [Act.put, List.getElem_toArray, List.getElem_cons_succ, List.getElem_cons_zero, List.setIfInBounds_toArray, List.set_cons_zero, List.set_cons_succ])
  refine wpAnyZ_take (i := 5) (v := ?_) rfl (by kernel_rfl) (by kernel_rfl) (by kernel_rfl) (by kernel_rfl) (fun _ _ _ h => h) (Or.inl ⟨by first | kernel_rfl | rfl, ?_⟩) (by assumption) ?_
  rotate_left
  · intro w hSw; (try dsimp only at hSw); go_simp; (try with_reducible rfl)
  (try simp only [Act.put, List.getElem_toArray, List.getElem_cons_succ, List.getElem_cons_zero, List.setIfInBounds_toArray, List.set_cons_zero, List.set_cons_succ])
  refine wpAnyZ_take (i := 6) (v := ?_) rfl (by kernel_rfl) (by kernel_rfl) (by kernel_rfl) (by kernel_rfl) (fun _ _ _ h => h) (Or.inl ⟨by first | kernel_rfl | rfl, ?_⟩) (by assumption) ?_
  rotate_left
  · intro w hSw; (try dsimp only at hSw); go_simp; (try with_reducible rfl)
  (try simp only [Act.put, List.getElem_toArray, List.getElem_cons_succ, List.getElem_cons_zero, List.setIfInBounds_toArray, List.set_cons_zero, List.set_cons_succ])
  refine wpAnyZ_take (i := 7) (v := ?_) rfl (by kernel_rfl) (by kernel_rfl) (by kernel_rfl) (by kernel_rfl) (fun _ _ _ h => h) (Or.inl ⟨by first | kernel_rfl | rfl, ?_⟩) (by assumption) ?_
  rotate_left
  · intro w hSw; (try dsimp only at hSw); go_simp; (try with_reducible rfl)
  (try simp only [Act.put, List.getElem_toArray, List.getElem_cons_succ, List.getElem_cons_zero, List.setIfInBounds_toArray, List.set_cons_zero, List.set_cons_succ])
  refine wpAnyZ_take (i := 8) (v := ?_) rfl (by kernel_rfl) (by kernel_rfl) (by kernel_rfl) (by kernel_rfl) (fun _ _ _ h => h) (Or.inl ⟨by first | kernel_rfl | rfl, ?_⟩) (by assumption) ?_
  rotate_left
  · intro w hSw; (try dsimp only at hSw); go_simp; (try with_reducible rfl)
  (try simp only [Act.put, List.getElem_toArray, List.getElem_cons_succ, List.getElem_cons_zero, List.setIfInBounds_toArray, List.set_cons_zero, List.set_cons_succ])
  refine wpAnyZ_take (i := 9) (v := ?_) rfl (by kernel_rfl) (by kernel_rfl) (by kernel_rfl) (by kernel_rfl) (fun _ _ _ h => h) (Or.inl ⟨by first | kernel_rfl | rfl, ?_⟩) (by assumption) ?_
  rotate_left
  · intro w hSw; (try dsimp only at hSw); go_simp; (try with_reducible rfl)
  (try simp only [Act.put, List.getElem_toArray, List.getElem_cons_succ, List.getElem_cons_zero, List.setIfInBounds_toArray, List.set_cons_zero, List.set_cons_succ])
  rw [hw4]
  refine wpAnyZ_ready (i := 10) (by kernel_rfl) rfl (fun K hK => ?_)
  go_simp
  refine (own_st w4 HTO.out hout hps.out r.o.c).mono ?_
  rintro e w5 ⟨A5, c5, l5, rfl, HL5, HD5, HB5, HF5⟩
  have hB5m : w5.heap[B.mb]? = w4.heap[B.mb]? := HB5.out.block _ (by have := HMA.out.mlt; have := HS4.out; omega)
  have hB5x : w5.heap[W.heap.size]? = w4.heap[W.heap.size]? := HB5.out.block _ (by have := HS4.out; omega)
  have h5a := H270.out w5 hB5m
  have h5b := HX5.out w5 hB5x
  refine hK.out _ _ (⟨h5a, h5b.1, h5b.2.1⟩) (fun hHeld => ?_)
  clear hK K
  (try simp only [Act.put, List.getElem_toArray, List.getElem_cons_succ, List.getElem_cons_zero, List.setIfInBounds_toArray, List.set_cons_zero, List.set_cons_succ])
  refine wpAnyZ_take (i := 11) (v := ?_) rfl (by kernel_rfl) (by kernel_rfl) (by kernel_rfl) (by kernel_rfl) (fun _ _ _ h => h) (Or.inl ⟨by first | kernel_rfl | rfl, ?_⟩) (by assumption) ?_
  rotate_left
  · intro w hSw; (try dsimp only at hSw); go_simp; (try with_reducible rfl)
  (try simp only [Act.put, List.getElem_toArray, List.getElem_cons_succ, List.getElem_cons_zero, List.setIfInBounds_toArray, List.set_cons_zero, List.set_cons_succ])
  refine wpAnyZ_ready (i := 12) (by kernel_rfl) rfl (fun K hK => ?_)
  go_simp
  refine hK.out _ _ (⟨cellAl _ h5a, cellAl _ h5b.1, cellAl _ h5b.2.1⟩) (fun hHeld => ?_)
  clear hK K
  (try simp only [Act.put, List.getElem_toArray, List.getElem_cons_succ, List.getElem_cons_zero, List.setIfInBounds_toArray, List.set_cons_zero, List.set_cons_succ])
  have hs5 := HB5.out.size
  have hA5 : ∀ k, k < wA.heap.size → k ≠ B.ab → w5.heap[k]? = wA.heap[k]? := fun k hk hn => (HB5.out.block k (by have := HS4.out; omega)).trans (by rw [HH4.out]; exact HAB.out k hk hn)
  have HA5 := Lib.hid hA5
  have HAL : Hid (w5.ownsRow B.n 59 3 (.slice V.aa V.acs.length V.ac) V.acs.length (V.acs.flatMap fun y => actC y.2)) := Lib.hid (own_keep HMA.out.al fun k hk => hA5 k (own_ty HMA.out.al hk).2.1 (fun e => own_ne_map HMA.out.al HMA.out.am (e ▸ hk)))
  obtain ⟨i0, hi, hz0, hz1, hz2⟩ := info_parts infoActM
  have hl40 : V.acs.length < 1099511627776 := by omega
  have hn5 : B.n ≤ w5.heap.size := by have := HMA.out.nle; have := HS4.out; omega
  clear hA5
  refine wpAnyZ_ready (i := 13) (by kernel_rfl) rfl (fun K hK => ?_)
  refine step_pushG rfl _ _ 46 rfl B.n 59 i0 _ 3 40 Tryz.underlying46 hi hz0 hz1 hz2 rfl (by decide) HAL.out rfl [.int .i64 r.e, .int .i64 0, .slice A5 l5.length c5] 59 rfl rfl (by simp [Value.oneCell']) hl40 (by decide) hn5 ?_
  intro A9 c9 w9 HO9 HG9 HN9
  have hpm : ownA V.aa ≠ some B.mb := own_ne_cells HMA.out.al HMA.out.box tyAM
  have hpx : ownA V.aa ≠ some W.heap.size := fun e => by have := (own_ty hM.out.al e).2.1; omega
  have hml : B.mb < w5.heap.size := by have := HMA.out.mlt; have := HS4.out; omega
  have h9m : w9.heap[B.mb]? = w4.heap[B.mb]? := (HG9.out.block _ (by simp; omega) (fun e => hpm e.symm)).trans ((Below.heap_alloc _ _ _ hml).trans hB5m)
  have h9x : w9.heap[W.heap.size]? = w4.heap[W.heap.size]? := (HG9.out.block _ (by have := HS4.out; simp; omega) (fun e => hpx e.symm)).trans ((Below.heap_alloc _ _ _ (by have := HS4.out; omega)).trans hB5x)
  have h9a := H270.out w9 h9m
  have h9b := HX5.out w9 h9x
  have h9f : w9.frozen? ⟨B.mb, 270, none⟩ = false := by
    have := h9m.trans HB4M.out
    simp [World.frozen?, this]
  refine hK.out _ _ (⟨h9a, h9b.1, h9b.2.1⟩) (fun hHeld => ?_)
  clear hK K
  (try simp only [Act.put, List.getElem_toArray, List.getElem_cons_succ, List.getElem_cons_zero, List.setIfInBounds_toArray, List.set_cons_zero, List.set_cons_succ])
  refine wpAnyZ_ready (i := 14) (by kernel_rfl) rfl (fun K hK => ?_)
  go_simp
  refine hK.out _ _ (⟨h9a, h9b.1, h9b.2.1⟩) (fun hHeld => ?_)
  clear hK K
  (try simp only [Act.put, List.getElem_toArray, List.getElem_cons_succ, List.getElem_cons_zero, List.setIfInBounds_toArray, List.set_cons_zero, List.set_cons_succ])
  refine wpAnyZ_ready (i := 15) (by kernel_rfl) rfl (fun K hK => ?_)
  go_simp
  refine hK.out _ _ (⟨h9a, h9b.1, h9b.2.1⟩) (fun hHeld => ?_)
  clear hK K
  (try simp only [Act.put, List.getElem_toArray, List.getElem_cons_succ, List.getElem_cons_zero, List.setIfInBounds_toArray, List.set_cons_zero, List.set_cons_succ])
  refine wpAnyZ_take (i := 16) (v := ?_) rfl (by kernel_rfl) (by kernel_rfl) (by kernel_rfl) (by kernel_rfl) (fun _ _ _ h => h) (Or.inl ⟨by first | kernel_rfl | rfl, ?_⟩) (by assumption) ?_
  rotate_left
  · intro w hSw; (try dsimp only at hSw); go_simp; (try with_reducible rfl)
  (try simp only [Act.put, List.getElem_toArray, List.getElem_cons_succ, List.getElem_cons_zero, List.setIfInBounds_toArray, List.set_cons_zero, List.set_cons_succ])
  refine wpAnyZ_last (i := 17) rfl (by kernel_rfl) (by kernel_rfl) rfl (fun K hK => ?_)
  go_simp
  refine hK.out _ _ ?_
  obtain ⟨w10, hw10⟩ : ∃ z, w9.setCell ⟨B.mb, 270, none⟩ (.slice A9 (V.acs.length + 1) c9) = z := ⟨_, rfl⟩
  have hst : ∀ k, k ≠ B.mb → w10.heap[k]? = w9.heap[k]? := fun k hk => by rw [← hw10]; exact heap_setCell_other _ _ _ _ hk
  have hs9 := HG9.out.size
  simp at hs9
  have hs10 : w10.heap.size = w9.heap.size := by rw [← hw10]; simp
  have hlen : (V.acs ++ [(i, (⟨r.e, 0, ⟨A5, c5, l5⟩⟩ : ActI))]).length = V.acs.length + 1 := by simp
  have hnewA : ∀ g, ownA A9 = some g → ownA V.aa = some g ∨ w5.heap.size + 1 ≤ g := fun g hg => by
    rcases HN9.out with e2 | ⟨q, e2, hq⟩
    · rw [e2] at hg; exact .inl hg
    · rw [e2] at hg; injection hg with hg; right; omega
  have hchain : ∀ k, k < wA.heap.size → k ≠ B.mb → k ≠ B.ab → ownA V.aa ≠ some k → w10.heap[k]? = wA.heap[k]? := fun k hk h1 h2 h3 =>
    (hst k h1).trans ((HG9.out.block k (by have := HS4.out; simp; omega) (fun e => h3 e.symm)).trans ((Below.heap_alloc _ _ _ (by have := HS4.out; omega)).trans (HA5.out k hk h2)))
  have hMk := HMA.out.afterAct (W3 := w10) (a := A9) (c := c9) (x := (i, ⟨r.e, 0, ⟨A5, c5, l5⟩⟩)) (by have := HS4.out; omega) hchain
    (by
      rw [← hw10, heap_setCell_same w9 B.mb 270 _ _ _ (h9m.trans HB4M.out), List.setIfInBounds_toArray, ← hlen, mkCells_set270 B V hM.out.cl]; rfl)
    (by
      rw [hlen, List.flatMap_append]
      have h := own_keep HO9.out (w' := w10) (fun k hk => hst k (fun e => by
        rcases hnewA k hk with e2 | e2
        · exact hpm (e ▸ e2)
        · omega))
      simpa [actC, OutI.v] using h)
    (by
      rw [List.map_append]
      refine HMB.out.same ((hst _ HMN.out.1.symm).trans ((HG9.out.block _ (by have := HMA.out.am.lt; have := HS4.out; simp; omega) (fun e => own_ne_map HMA.out.al HMA.out.am e.symm)).trans ((Below.heap_alloc _ _ _ (by have := HMA.out.am.lt; have := HS4.out; omega)).trans ((HB5.out.block _ (by have := HMA.out.am.lt; have := HS4.out; omega)).trans (by rw [HH4.out]))))))
    (fun g hg => by
      rcases hnewA g hg with e2 | e2
      · exact .inl e2
      · right; have := HS4.out; omega)
    (fun U hU => by
      have hk5 : ∀ k, w4.heap.size ≤ k → k < w5.heap.size → U.heap[k]? = w5.heap[k]? := fun k hk hl => by
        have hfree : ¬ Mut B (withA V A9 c9 (V.acs ++ [(i, ⟨r.e, 0, ⟨A5, c5, l5⟩⟩)])) k := fun hm => by
          have hs4 := HS4.out
          rcases hm with e | e | e | e | e | e | e | e
          · have := HMA.out.mlt; omega
          · have := HMA.out.num.lt; omega
          · have := HMA.out.am.lt; omega
          · have := HMA.out.em.lt; omega
          · have := (own_ty HMA.out.pl e).2.1; omega
          · rcases hnewA k e with e2 | e2
            · have := (own_ty HMA.out.al e2).2.1; omega
            · omega
          · have := (own_ty HMA.out.el e).2.1; omega
          · have := (own_ty HMA.out.nl e).2.1; omega
        refine (hU k ⟨hfree, fun ha => by have := HMA.out.avl k ha; have := HS4.out; omega⟩ (by omega)).trans ((hst k (fun e => hfree (.inl e))).trans ((HG9.out.block k (by simp; omega) (fun e => ?_)).trans (Below.heap_alloc _ _ _ hl)))
        have := (own_ty HMA.out.al e.symm).2.1
        have := HS4.out
        omega
      exact ⟨⟨⟨HW.out.1.2.2, i64_0⟩, HD5.out U hk5⟩, HF5.out U hk5⟩)
  have HM10 := Lib.hid hMk.1
  have HF10 : Hid (MkF B V (withA V A9 c9 (V.acs ++ [(i, ⟨r.e, 0, ⟨A5, c5, l5⟩⟩)])) W w10) := Lib.hid (by
    refine ⟨?_, fun k hk hn => ?_, fun k hk hm => hMk.2 k (by have := HBA.out.size; omega) hm⟩
    · have h1 : Below B.n W w5 := HBEL4.out.trans (HB5.out.mono (by have := HMA.out.nle; have := HS4.out; omega))
      have h2 := ((h1.alloc hn5 (.cells [.int .i64 r.e, .int .i64 0, .slice A5 l5.length c5].toArray 59)).grown HG9.out (by simp; omega) (fun k hk => (own_ty HMA.out.al hk).1)).setCell (p := ⟨B.mb, 270, none⟩) hM.out.lo.1 (.slice A9 (V.acs.length + 1) c9)
      rw [hw10] at h2
      exact h2
    · exact (hchain k (by have := HBA.out.size; omega) (fun e => hn (.inl e)) (fun e => hn (.inr (.inr (.inl e)))) (fun e => hn (.inr (.inr (.inr (.inr (.inr (.inl e)))))))).trans (HBA.out.block k hk))
  have h10x : w10.heap[W.heap.size]? = w4.heap[W.heap.size]? := (hst _ (fun e => by have := hM.out.mlt; omega)).trans h9x
  have H10X := Lib.hid h10x
  have HNEWA := Lib.hid hnewA
  clear hHeld hK K h9m h9x h9a h9b h9f hpm hpx hml hst hs9 hs10 hnewA hchain hMk h10x hB5m hB5x h5a h5b hw4 h4a h4b
  (try simp only [Act.put, List.getElem_toArray, List.getElem_cons_succ, List.getElem_cons_zero, List.setIfInBounds_toArray, List.set_cons_zero, List.set_cons_succ])
  go_wp2_with fail
  rw [hw10]
  obtain ⟨b, hAb⟩ := own_some HM10.out.al (by simp [withA])
  obtain rfl : A9 = some ⟨b, 0, none⟩ := hAb
  obtain ⟨w11, hw11⟩ : ∃ z, w10.drew = z := ⟨_, rfl⟩
  have hb11 : Below w10.heap.size w10 w11 := by rw [← hw11]; exact (Below.refl _ _).drew
  have HM11 := Lib.hid (HM10.out.below hb11)
  have HF11 := Lib.hid (HF10.out.trans (MkF.of_below hb11 HM10.out.nle))
  have hWs : W.heap.size < w10.heap.size := by
    have h1 := H10X.out
    rcases Nat.lt_or_ge W.heap.size w10.heap.size with h | h
    · exact h
    · exfalso
      have := HX5.out w10 h1
      have := lt_of_cell this.1
      omega
  have h11x : w11.heap[W.heap.size]? = w4.heap[W.heap.size]? := (hb11.block _ hWs).trans H10X.out
  have h270 : w11.cell? ⟨B.mb, 270, none⟩ = some (.slice (some ⟨b, 0, none⟩) (V.acs.length + 1) c9) := by
    have := HM11.out.chi (j := 1) rfl
    simpa [withA] using this
  have h11b := (HX5.out w11 h11x).2.2
  have H11X := Lib.hid h11x
  have hlen1 : (V.acs.length : Int) < (V.acs.length : Int) + 1 := by omega
  have hlen0 : (0 : Int) ≤ (V.acs.length : Int) := by omega
  have hlen2 : V.acs.length < V.acs.length + 1 := by omega
  clear h11x hb11 hw10
  refine wp_region_Z 13 (by kernel_rfl) (fun V' => V'.cell? ⟨B.mb, 270, none⟩ = some (.slice (some ⟨b, 0, none⟩) (V.acs.length + 1) c9) ∧ V'.cell? ⟨W.heap.size, 1, none⟩ = some (.int .i64 r.dst)) (by rw [hw11]; exact ⟨h270, h11b⟩) (fun hHeld => ?_)
  refine wpAnyZ_take (i := 0) (v := ?_) rfl (by kernel_rfl) (by kernel_rfl) (by kernel_rfl) (by kernel_rfl) (fun _ _ _ h => h) (Or.inl ⟨by first | kernel_rfl | rfl, ?_⟩) (by assumption) ?_
  rotate_left
  · intro w hSw; (try dsimp only at hSw); go_simp; (try with_reducible rfl)
  (try simp only [Act.put, List.getElem_toArray, List.getElem_cons_succ, List.getElem_cons_zero, List.setIfInBounds_toArray, List.set_cons_zero, List.set_cons_succ])
  refine wpAnyZ_take (i := 1) (v := ?_) rfl (by kernel_rfl) (by kernel_rfl) (by kernel_rfl) (by kernel_rfl) (fun _ _ _ h => h) (Or.inl ⟨by first | kernel_rfl | rfl, ?_⟩) (by assumption) ?_
  rotate_left
  · intro w hSw; (try dsimp only at hSw); go_simp; (try with_reducible rfl)
  (try simp only [Act.put, List.getElem_toArray, List.getElem_cons_succ, List.getElem_cons_zero, List.setIfInBounds_toArray, List.set_cons_zero, List.set_cons_succ])
  refine wpAnyZ_take (i := 2) (v := ?_) rfl (by kernel_rfl) (by kernel_rfl) (by kernel_rfl) (by kernel_rfl) (fun _ _ _ h => h) (Or.inl ⟨by first | kernel_rfl | rfl, ?_⟩) (by assumption) ?_
  rotate_left
  · intro w hSw; (try dsimp only at hSw); go_simp; (try with_reducible rfl)
  (try simp only [Act.put, List.getElem_toArray, List.getElem_cons_succ, List.getElem_cons_zero, List.setIfInBounds_toArray, List.set_cons_zero, List.set_cons_succ])
  refine wpAnyZ_take (i := 3) (v := ?_) rfl (by kernel_rfl) (by kernel_rfl) (by kernel_rfl) (by kernel_rfl) (fun _ _ _ h => h) (Or.inl ⟨by first | kernel_rfl | rfl, ?_⟩) (by assumption) ?_
  rotate_left
  · intro w hSw; (try dsimp only at hSw); go_simp; (try with_reducible rfl)
  (try simp only [Act.put, List.getElem_toArray, List.getElem_cons_succ, List.getElem_cons_zero, List.setIfInBounds_toArray, List.set_cons_zero, List.set_cons_succ])
  refine wpAnyZ_take (i := 4) (v := ?_) rfl (by kernel_rfl) (by kernel_rfl) (by kernel_rfl) (by kernel_rfl) (fun _ _ _ h => h) (Or.inl ⟨by first | kernel_rfl | rfl, ?_⟩) (by assumption) ?_
  rotate_left
  · intro w hSw; (try dsimp only at hSw); go_simp; (try with_reducible rfl)
  (try simp only [Act.put, List.getElem_toArray, List.getElem_cons_succ, List.getElem_cons_zero, List.setIfInBounds_toArray, List.set_cons_zero, List.set_cons_succ])
  refine wpAnyZ_take (i := 5) (v := ?_) rfl (by kernel_rfl) (by kernel_rfl) (by kernel_rfl) (by kernel_rfl) (fun _ _ _ h => h) (Or.inl ⟨by first | kernel_rfl | rfl, ?_⟩) (by assumption) ?_
  rotate_left
  · intro w hSw; (try dsimp only at hSw); go_simp; (try with_reducible rfl)
  (try simp only [Act.put, List.getElem_toArray, List.getElem_cons_succ, List.getElem_cons_zero, List.setIfInBounds_toArray, List.set_cons_zero, List.set_cons_succ])
  refine wpAnyZ_take (i := 6) (v := ?_) rfl (by kernel_rfl) (by kernel_rfl) (by kernel_rfl) (by kernel_rfl) (fun _ _ _ h => h) (Or.inl ⟨by first | kernel_rfl | rfl, ?_⟩) (by assumption) ?_
  rotate_left
  · intro w hSw; (try dsimp only at hSw); go_simp; (try with_reducible rfl)
  (try simp only [Act.put, List.getElem_toArray, List.getElem_cons_succ, List.getElem_cons_zero, List.setIfInBounds_toArray, List.set_cons_zero, List.set_cons_succ])
  refine wpAnyZ_take (i := 7) (v := ?_) rfl (by kernel_rfl) (by kernel_rfl) (by kernel_rfl) (by kernel_rfl) (fun _ _ _ h => h) (Or.inl ⟨by first | kernel_rfl | rfl, ?_⟩) (by assumption) ?_
  rotate_left
  · intro w hSw; (try dsimp only at hSw); go_simp; (try with_reducible rfl)
  (try simp only [Act.put, List.getElem_toArray, List.getElem_cons_succ, List.getElem_cons_zero, List.setIfInBounds_toArray, List.set_cons_zero, List.set_cons_succ])
  refine wpAnyZ_take (i := 8) (v := ?_) rfl (by kernel_rfl) (by kernel_rfl) (by kernel_rfl) (by kernel_rfl) (fun _ _ _ h => h) (Or.inl ⟨by first | kernel_rfl | rfl, ?_⟩) (by assumption) ?_
  rotate_left
  · intro w hSw; (try dsimp only at hSw); go_simp; (try with_reducible rfl)
  (try simp only [Act.put, List.getElem_toArray, List.getElem_cons_succ, List.getElem_cons_zero, List.setIfInBounds_toArray, List.set_cons_zero, List.set_cons_succ])
  refine wpAnyZ_take (i := 9) (v := ?_) rfl (by kernel_rfl) (by kernel_rfl) (by kernel_rfl) (by kernel_rfl) (fun _ _ _ h => h) (Or.inl ⟨by first | kernel_rfl | rfl, ?_⟩) (by assumption) ?_
  rotate_left
  · intro w hSw; (try dsimp only at hSw); go_simp; (try with_reducible rfl)
  (try simp only [Act.put, List.getElem_toArray, List.getElem_cons_succ, List.getElem_cons_zero, List.setIfInBounds_toArray, List.set_cons_zero, List.set_cons_succ])
  rw [hw11]
  refine wpAnyZ_ready (i := 10) (by kernel_rfl) rfl (fun K hK => ?_)
  go_simp
  refine (node_mk w11 B _ HM11 (r.dst, []) ⟨HW.out.1.2.1, by simp, by simp⟩ r.dst 0 0 0 0 0 (Lib.hid rfl) (by show V.ps.length ≤ _; omega)).mono ?_
  rintro e w12 ⟨pa, pc, rfl, HM12, HF12⟩
  have hfx : ¬ Mut B (withA V (some ⟨b, 0, none⟩) c9 (V.acs ++ [(i, ⟨r.e, 0, ⟨A5, c5, l5⟩⟩)])) W.heap.size := fun hm => by
    rcases hm with e | e | e | e | e | e | e | e
    · have := hM.out.mlt; omega
    · have := hM.out.num.lt; omega
    · have := hM.out.am.lt; omega
    · have := hM.out.em.lt; omega
    · have := (own_ty hM.out.pl e).2.1; omega
    · rcases HNEWA.out _ e with e2 | e2
      · have := (own_ty hM.out.al e2).2.1; omega
      · have := HB5.out.size; have := HS4.out; omega
    · have := (own_ty hM.out.el e).2.1; omega
    · have := (own_ty hM.out.nl e).2.1; omega
  have h12x : w12.heap[W.heap.size]? = w4.heap[W.heap.size]? := (HF12.out.blk _ (by
    have := HX5.out w11 H11X.out
    exact lt_of_cell this.1) hfx).trans H11X.out
  have h12a : w12.cell? ⟨B.mb, 270, none⟩ = some (.slice (some ⟨b, 0, none⟩) (V.acs.length + 1) c9) := by
    have := HM12.out.chi (j := 1) rfl
    simpa [withA, withP] using this
  have h12b := (HX5.out w12 h12x).2.2
  have h12c : ∃ v, w12.cell? ⟨b, V.acs.length * 3 + 1, none⟩ = some v := by
    have h := HM12.out.al
    have h2 : w12.ownsRow B.n 59 3 (.slice (some ⟨b, 0, none⟩) (V.acs ++ [(i, (⟨r.e, 0, ⟨A5, c5, l5⟩⟩ : ActI))]).length c9) (V.acs ++ [(i, (⟨r.e, 0, ⟨A5, c5, l5⟩⟩ : ActI))]).length ((V.acs ++ [(i, (⟨r.e, 0, ⟨A5, c5, l5⟩⟩ : ActI))]).flatMap fun y => actC y.2) := h
    have h3 := h2.1
    rw [h2.cellAt _ (by simp; omega)]
    exact ⟨_, List.getElem?_eq_getElem (by rw [h3]; simp; omega)⟩
  obtain ⟨vc, hvc⟩ := h12c
  have h12f : w12.frozen? ⟨b, V.acs.length * 3 + 1, none⟩ = false := own_fz (HM12.out.al : w12.ownsRow B.n 59 3 (.slice (some ⟨b, 0, none⟩) _ _) _ _) _
  obtain ⟨dx, hdx⟩ : ∃ z : Nat, (putL V.ps (r.dst, [])).idxOf (r.dst, []) = z := ⟨_, rfl⟩
  have hdx2 : (putL (withA V (some ⟨b, 0, none⟩) c9 (V.acs ++ [(i, (⟨r.e, 0, ⟨A5, c5, l5⟩⟩ : ActI))])).ps (r.dst, [])).idxOf (r.dst, []) = dx := hdx
  rw [hdx2]
  have HDX := Lib.hid hdx
  have hdx64 : I64 (dx : Int) := by
    have h1 : dx ≤ V.ps.length + 1 := by
      rw [← hdx]
      have := List.idxOf_le_length (a := ((r.dst, []) : Place)) (l := putL V.ps (r.dst, []))
      refine Nat.le_trans this ?_
      unfold putL
      split <;> simp
    unfold I64; omega
  clear hdx hdx2 hfx h12x
  refine hK.out _ _ (⟨h12a, h12b⟩) (fun hHeld => ?_)
  clear hK K
  (try simp only [Act.put, List.getElem_toArray, List.getElem_cons_succ, List.getElem_cons_zero, List.setIfInBounds_toArray, List.set_cons_zero, List.set_cons_succ])
  refine wpAnyZ_ready (i := 11) (by kernel_rfl) rfl (fun K hK => ?_)
  go_simp
  refine hK.out _ _ (⟨h12a, h12b⟩) (fun hHeld => ?_)
  clear hK K
  (try simp only [Act.put, List.getElem_toArray, List.getElem_cons_succ, List.getElem_cons_zero, List.setIfInBounds_toArray, List.set_cons_zero, List.set_cons_succ])
  refine wpAnyZ_take (i := 12) (v := ?_) rfl (by kernel_rfl) (by kernel_rfl) (by kernel_rfl) (by kernel_rfl) (fun _ _ _ h => h) (Or.inl ⟨by first | kernel_rfl | rfl, ?_⟩) (by assumption) ?_
  rotate_left
  · intro w hSw; (try dsimp only at hSw); go_simp; (try with_reducible rfl)
  (try simp only [Act.put, List.getElem_toArray, List.getElem_cons_succ, List.getElem_cons_zero, List.setIfInBounds_toArray, List.set_cons_zero, List.set_cons_succ])
  refine wpAnyZ_last (i := 13) rfl (by kernel_rfl) (by kernel_rfl) rfl (fun K hK => ?_)
  go_simp
  refine hK.out _ _ ?_
  have HFIN : Hid (RetLay B V (putA B S i) ((putA B S i).acts.idxOf i : Nat) W (.returned (.int .i64 (V.acs.length : Int))) (w12.setCell ⟨b, V.acs.length * 3 + 1, none⟩ (.int .i64 (dx : Int)))) := Lib.hid (by
    have hM3 := HM12.out.setTo (L := V.acs) (i := i) (b := b) (e := r.e) (d0 := 0) (o := ⟨A5, c5, l5⟩) rfl rfl (dx : Int) hdx64
    have hnlo : B.n ≤ b := (own_ty HM12.out.al (k := b) rfl).1
    refine ⟨_, ?_, Lib.hid hM3, Lib.hid ((HF11.out.trans HF12.out).trans (?_ : MkF B _ (withA (withP (withA V (some ⟨b, 0, none⟩) c9 (V.acs ++ [(i, ⟨r.e, 0, ⟨A5, c5, l5⟩⟩)])) pa pc (putL V.ps (r.dst, []))) (some ⟨b, 0, none⟩) c9 (V.acs ++ [(i, ⟨r.e, dx, ⟨A5, c5, l5⟩⟩)])) w12 _)), Lib.hid ⟨?_, ?_, by rw [HPA.out]; exact hS.out.ends, ?_, hS.out.eok⟩, rfl⟩
    · rw [HPA.out]
      show _ = Ending.returned (.int .i64 (((S.acts ++ [i]).idxOf i : Nat) : Int))
      have hnd : (S.acts ++ [i]).Nodup := by
        rw [← HSA.out]
        obtain ⟨_, _, _, _, h3, _⟩ := hM.out.am
        rw [idxM_fst] at h3
        exact List.nodup_append.2 ⟨nodup_of_map _ h3, by simp, fun a ha b hb e => HNM.out (by rw [List.mem_singleton] at hb; rw [← hb, ← e]; exact ha)⟩
      rw [idxOf_at (i := S.acts.length) hnd (by simp), ← HSA.out, List.length_map]
    · refine ⟨(Below.refl _ _).setCell hnlo _, fun k hk hn => heap_setCell_other _ _ _ _ (fun e => hn ?_), fun k hk hm => hm⟩
      have e : k = b := e
      subst e
      exact .inr (.inr (.inr (.inr (.inr (.inl rfl)))))
    · rw [HPA.out]
      show putL V.ps (r.dst, []) = putL S.ps (r.dst, [])
      rw [hS.out.ps]
    · rw [HPA.out]
      show List.map (fun (x : Nat × ActI) => x.1) (V.acs ++ [(i, ⟨r.e, dx, ⟨A5, c5, l5⟩⟩)]) = S.acts ++ [i]
      rw [List.map_append, HSA.out]; rfl
    · intro x hx
      rcases List.mem_append.1 hx with hx | hx
      · obtain ⟨q, h1, h2, h3⟩ := hS.out.aok x hx
        refine ⟨q, h1, mem_put.2 (.inl h2), ?_⟩
        rw [h3]
        show _ = (⟨q.e, ((putL V.ps (r.dst, [])).idxOf (q.dst, []) : Nat), q.o.L⟩ : ActL)
        rw [idxOf_put h2]
      · rw [List.mem_singleton] at hx
        subst hx
        refine ⟨r, hr.out, mem_put.2 (.inr rfl), ?_⟩
        show (⟨r.e, dx, l5.map TermI.L⟩ : ActL) = ⟨r.e, ((putL V.ps (r.dst, [])).idxOf (r.dst, []) : Nat), r.o.L⟩
        rw [HL5.out, ← HDX.out]; rfl)
  clear hHeld hK K hdx64 h12f hvc h12a h12b hw11 h270 h11b
  (try simp only [Act.put, List.getElem_toArray, List.getElem_cons_succ, List.getElem_cons_zero, List.setIfInBounds_toArray, List.set_cons_zero, List.set_cons_succ])
  go_wp2_with fail
  go_ret
  exact HFIN.out
end Go.Proofs.YtlmkokeapbleoaaGreat
end
section
namespace Go.Proofs.YtlmkokeapbleoaaGreat
open Go.RowKit
def rowF (l : List Int) (q : Int) : List Int := ((List.range l.length).filter fun j => l[j]? == some q).map fun (j : Nat) => (j : Int)
theorem rowF_mem {l : List Int} {q x : Int} : x ∈ rowF l q ↔ ∃ j : Nat, x = j ∧ l[j]? = some q := by
  unfold rowF
  rw [List.mem_map]
  constructor
  · rintro ⟨j, hj, rfl⟩
    exact ⟨j, rfl, by simpa using (List.mem_filter.1 hj).2⟩
  · rintro ⟨j, rfl, hj⟩
    exact ⟨j, List.mem_filter.2 ⟨List.mem_range.2 (List.getElem?_eq_some_iff.1 hj).1, by simpa using hj⟩, rfl⟩
theorem rowF_len (l : List Int) (q : Int) : (rowF l q).length ≤ l.length := by
  unfold rowF
  rw [List.length_map]
  have := List.length_filter_le (fun j => l[j]? == some q) (List.range l.length)
  rwa [List.length_range] at this
theorem rowF_rise (l : List Int) (q : Int) : (rowF l q).Pairwise (· < ·) := by
  unfold rowF
  rw [List.pairwise_map]
  exact (List.pairwise_lt_range.sublist List.filter_sublist).imp fun h => by omega
theorem rowF_ahead {l : List Int} {q : Int} {y : Nat} {j j' : Nat} (h : (rowF l q)[y]? = some (j : Int)) (hj : j' < j) (hl : l[j']? = some q) : (j' : Int) ∈ (rowF l q).take y := by
  obtain ⟨y', hy'⟩ := List.getElem?_of_mem (rowF_mem.2 ⟨j', rfl, hl⟩)
  have h1 := List.getElem?_eq_some_iff.1 h
  have h2 := List.getElem?_eq_some_iff.1 hy'
  rcases Nat.lt_or_ge y' y with hlt | hge
  · exact List.mem_of_getElem? (i := y') (by rw [List.getElem?_take_of_lt hlt]; exact hy')
  · exfalso
    rcases Nat.lt_or_eq_of_le hge with hlt | heq
    · have := (List.pairwise_iff_getElem.1 (rowF_rise l q)) y y' h1.1 h2.1 hlt
      rw [h1.2, h2.2] at this; omega
    · subst heq
      rw [h] at hy'
      injection hy' with hy'; omega
structure MkOk (B : MkB) : Prop where
  ok : DescOk B.d.L
  rn : B.rows.length = B.d.n.toNat
  fn : B.fins.length = B.d.n.toNat
  rows : ∀ q : Nat, (q : Int) < B.d.n → ∃ a c, B.rows[q]? = some (a, c, rowF (B.d.rs.map (·.fr)) q)
  fins : ∀ q : Nat, (q : Int) < B.d.n → ∃ a c, B.fins[q]? = some (a, c, rowF (B.d.fs.map (·.fr)) q)
  parts : (∀ r ∈ B.d.rs, ∀ t ∈ r.o.l, t.ps.length ≤ 1048576) ∧ ∀ r ∈ B.d.fs, ∀ t ∈ r.o.l, t.ps.length ≤ 1048576
def EndC (B : MkB) (p : Place) (j : Nat) : Prop := ∃ f, B.d.fs[j]? = some f ∧ f.fr = p.1 ∧ f.gs.length = p.2.length ∧ OnG B.ls (bodies f.gs) p.2
noncomputable def endF (B : MkB) (p : Place) : Option Nat := (List.range B.d.fs.length).find? fun j => pB (EndC B p j)
theorem find_range {n j : Nat} {P : Nat → Bool} (hj : j < n) (hP : P j = true) (hno : ∀ j' < j, P j' = false) : (List.range n).find? P = some j := by
  rw [List.find?_range_eq_some]
  exact ⟨hP, List.mem_range.2 hj, fun k hk => by rw [hno k hk]; rfl⟩
theorem endF_some {B : MkB} {p : Place} {j : Nat} (h : EndC B p j) (hno : ∀ j' < j, ¬ EndC B p j') : endF B p = some j := by
  obtain ⟨f, hf, _⟩ := id h
  exact find_range (List.getElem?_eq_some_iff.1 hf).1 (pB_true h) fun j' hj' => pB_false (hno j' hj')
theorem endF_none {B : MkB} {p : Place} (hno : ∀ j, ¬ EndC B p j) : endF B p = none := by
  unfold endF
  rw [List.find?_eq_none]
  intro j _
  rw [pB_false (hno j)]; simp
noncomputable def putE (B : MkB) (S : LayS) (p : Place) : LayS := match endF B p with
  | none => S
  | some j => { S with ends := putL S.ends j }
noncomputable def endI (B : MkB) (S : LayS) (p : Place) : Int := match endF B p with
  | none => -1
  | some j => ((putL S.ends j).idxOf j : Nat)
def withE (V : MkV) (a : Option Addr) (c : Nat) (es : List (Nat × OutI)) : MkV := { V with ea := a, ec := c, es := es }
theorem Mk.afterEnd {B : MkB} {V : MkV} {W W3 : World} (h : Mk B V W) {a : Option Addr} {c : Nat} {x : Nat × OutI} (hs : W.heap.size ≤ W3.heap.size)
    (hk : ∀ k, k < W.heap.size → k ≠ B.mb → k ≠ B.eb → ownA V.ea ≠ some k → W3.heap[k]? = W.heap[k]?)
    (hbox : W3.heap[B.mb]? = some (.cells (mkCells B (withE V a c (V.es ++ [x]))).toArray 143 (0, 0)))
    (hel : W3.ownsRow B.n 57 1 (.slice a (V.es ++ [x]).length c) (V.es ++ [x]).length ((V.es ++ [x]).flatMap fun y => [OutI.v y.2]))
    (hem : MapIs Tryz.prog 3 B.eb (idxM ((V.es ++ [x]).map (·.1))) W3) (hnew : ∀ g, ownA a = some g → ownA V.ea = some g ∨ W.heap.size ≤ g)
    (hx : Dep (fun k => ¬ Mut B (withE V a c (V.es ++ [x])) k ∧ ¬ B.av k) W3 (OutW x.2)) :
    Mk B (withE V a c (V.es ++ [x])) W3 ∧ ∀ k, k < W.heap.size → Mut B (withE V a c (V.es ++ [x])) k → Mut B V k := by
  have hsub : ∀ k, k < W.heap.size → Mut B (withE V a c (V.es ++ [x])) k → Mut B V k := fun k hl hm => by
    rcases hm with e | e | e | e | e | e | e | e
    · exact .inl e
    · exact .inr (.inl e)
    · exact .inr (.inr (.inl e))
    · exact .inr (.inr (.inr (.inl e)))
    · exact .inr (.inr (.inr (.inr (.inl e))))
    · exact .inr (.inr (.inr (.inr (.inr (.inl e)))))
    · rcases hnew k e with e | e
      · exact .inr (.inr (.inr (.inr (.inr (.inr (.inl e))))))
      · omega
    · exact .inr (.inr (.inr (.inr (.inr (.inr (.inr e))))))
  have hmap : ∀ {b : Nat} {kt : TypeId} {M : List (Value × Value)}, MapIs Tryz.prog kt b M W → b ≠ B.eb → MapIs Tryz.prog kt b M W3 := fun k hn => k.same (hk _ k.lt (fun e => cells_ne_map h.box k e.symm) hn (own_ne_map h.el k))
  refine ⟨⟨hbox, h.cl, h.lo, h.dis, ?_, hmap h.num h.dis.2.1, h.pok, ?_, hmap h.am h.dis.2.2, hel, hem, ?_, ?_, fun k hk => Nat.lt_of_lt_of_le (h.avl k hk) hs⟩, hsub⟩
  · exact own_keep h.pl fun k hA => hk k (own_ty h.pl hA).2.1 (fun e => own_ne_cells h.pl h.box tyPM (e ▸ hA)) (fun e => own_ne_map h.pl h.em (e ▸ hA)) (fun e => own_apart h.pl h.el tyPT k hA e)
  · exact own_keep h.al fun k hA => hk k (own_ty h.al hA).2.1 (fun e => own_ne_cells h.al h.box tyAM (e ▸ hA)) (fun e => own_ne_map h.al h.em (e ▸ hA)) (fun e => own_apart h.al h.el tyAT k hA e)
  · exact own_keep h.nl fun k hA => hk k (own_ty h.nl hA).2.1 (fun e => own_ne_cells h.nl h.box tyNM (e ▸ hA)) (fun e => own_ne_map h.nl h.em (e ▸ hA)) (fun e => own_apart h.el h.nl tyTN k e hA)
  · have h2 := h.imm.step (w' := W3) (P' := fun k => ¬ Mut B (withE V a c (V.es ++ [x])) k ∧ ¬ B.av k) (fun k hn hl => hk k hl (fun e => hn.1 (.inl e)) (fun e => hn.1 (.inr (.inr (.inr (.inl e))))) (fun e => hn.1 (.inr (.inr (.inr (.inr (.inr (.inr (.inl e))))))))) hs (fun k hn hl => ⟨fun hm => hn.1 (hsub k hl hm), hn.2⟩)
    exact fun U hU => let q := h2 U hU; ⟨q.ls, q.rows, q.fins, q.acs, fun y hy => by
      rcases List.mem_append.1 hy with hy | hy
      · exact q.es y hy
      · rw [List.mem_singleton] at hy; subst hy; exact hx U hU, q.ns⟩
theorem Mk.has_st {B : MkB} {V : MkV} {W : World} (h : Mk B V W) {G : World → Prop} (hG : ∀ W', Below W.heap.size W W' → G W') :
    Hid (St W W (fun W' => (W'.cell? ⟨B.mb, 6, none⟩ = some (.slice B.la B.ls.length B.lc) ∧ IntsAt B.la B.ls W') ∧ G W')) :=
  Lib.hid ⟨fun W' hW => ⟨⟨(h.below hW).clo (i := 6) (by decide) rfl, (h.below hW).imm.now.ls⟩, hG W' hW⟩, Below.refl _ _⟩
end Go.Proofs.YtlmkokeapbleoaaGreat
end
section
namespace Go.Proofs.YtlmkokeapbleoaaGreat
open Go.RowKit
theorem infoEndM : (Tryz.prog.info? 57).map (fun i => (i.zero, i.size, i.bytes)) = some (some (.slice none 0 0), 1, 24) := by kernel_rfl
theorem bodies_len {α : Type} (O : List (Item α)) : (bodies O).length = O.length := by unfold bodies; simp
theorem end_mk (W : World) (B : MkB) (V : MkV) (S : LayS) (hM : Hid (Mk B V W)) (hS : Hid (Lays B V S)) (hD : Hid (∀ W', Below B.n W W' → DescW B.d W')) (hO : Hid (MkOk B)) (q : Nat) (wd : List Int) (hq : (q : Int) < B.d.n) (hwd : Hid (ClsOk B.ls wd)) (n c0 c1 c2 c3 : Int) (hpc : Hid (placeC ((q : Int), wd) = [.int .i64 (q : Int), .int .i64 n, .int .i64 c0, .int .i64 c1, .int .i64 c2, .int .i64 c3]))
    (hel : V.es.length ≤ 1048576) (hfl : B.d.fs.length ≤ 1048576) (hout : Hid (∀ f ∈ B.d.fs, f.o.l.length ≤ 1048576)) :
    Calls Tryz.prog 75 #[.pointer (some ⟨B.mb, 0, none⟩), .agg #[.int .i64 (q : Int), .int .i64 n, .int .i64 c0, .int .i64 c1, .int .i64 c2, .int .i64 c3]] W (RetLay B V (putE B S ((q : Int), wd)) (endI B S ((q : Int), wd)) W) := by
  obtain rfl : n = (wd.length : Int) := by
    have h := congrArg (fun l => l[1]?) hpc.out
    simp [placeC] at h; exact h.symm
  have hwc : Hid (wordC wd = [.int .i64 wd.length, .int .i64 c0, .int .i64 c1, .int .i64 c2, .int .i64 c3]) := Lib.hid (by
    have h := congrArg (fun l => l.drop 1) hpc.out
    simpa [placeC, wordC] using h)
  have hqn : q < B.fins.length := by have := hO.out.fn; omega
  obtain ⟨ra, rc, hrow⟩ := hO.out.fins q hq
  have HSE := Lib.hid hS.out.ends
  obtain ⟨wA, hwA⟩ : ∃ z, W.alloc (.cells #[.int .i64 (q : Int), .int .i64 (wd.length : Int), .int .i64 c0, .int .i64 c1, .int .i64 c2, .int .i64 c3] 150) = z := ⟨_, rfl⟩
  have hbA : Below W.heap.size W wA := by rw [← hwA]; exact (Below.refl _ _).alloc (Nat.le_refl _) _
  have hsA : wA.heap.size = W.heap.size + 1 := by rw [← hwA]; simp
  have hxA : wA.heap[W.heap.size]? = some (.cells #[.int .i64 (q : Int), .int .i64 (wd.length : Int), .int .i64 c0, .int .i64 c1, .int .i64 c2, .int .i64 c3] 150 (0, 0)) := by rw [← hwA]; exact heap_alloc_new W _
  have HMA := Lib.hid (hM.out.below hbA)
  have HBA := Lib.hid hbA
  have HSA := Lib.hid hsA
  have HXA := Lib.hid hxA
  have hm8 := HMA.out.clo (i := 8) (by decide) rfl
  obtain ⟨gb, off, xa, xc, xl, hfa, hx, hcx, hix⟩ := (HMA.out.imm.now.fins).1.at_ (j := q) hqn
  have hxe : (xa, xc, xl) = (ra, rc, rowF (B.d.fs.map (·.fr)) q) := by rw [hrow] at hx; exact (Option.some.inj hx).symm
  obtain ⟨rfl, rfl, rfl⟩ : xa = ra ∧ xc = rc ∧ xl = rowF (B.d.fs.map (·.fr)) q := by simpa using hxe
  rw [hfa] at hm8
  obtain ⟨l, hl⟩ : ∃ z, rowF (B.d.fs.map (·.fr)) q = z := ⟨_, rfl⟩
  rw [hl] at hcx hix
  have hll : l.length ≤ 1048576 := by
    have := rowF_len (B.d.fs.map (·.fr)) q
    rw [hl, List.length_map] at this; omega
  have hq1 : (q : Int) < (B.fins.length : Int) := by omega
  have hq0 : (0 : Int) ≤ (q : Int) := by omega
  have hA0 : wA.cell? ⟨W.heap.size, 0, none⟩ = some (.int .i64 (q : Int)) := by simp [World.cell?, hxA]
  have HL := Lib.hid hl
  have HIX : Hid (IntsAt xa l wA) := Lib.hid hix
  clear hbA hsA hxA hxe hrow hx hl hix hfa hqn
  go_enter Tryz.func75, Tryz.ntmps75
  go_wp2_with fail
  (try rw [hwA])
  go_quiet (fail)
  clear hwA hm8 hcx hA0
  go_wp2_with fail
  go_loopw [19] (fun iv wr => ∃ k : Nat, k ≤ l.length ∧ iv = .int .i64 k ∧ Hid (∀ j : Nat, (j : Int) ∈ l.take k → ¬ EndC B ((q : Int), wd) j) ∧ Hid (Below wA.heap.size wA wr)) (fun iv _ => l.length - (intOf iv).toNat)
  case atStart => exact ⟨0, Nat.zero_le _, rfl, Lib.hid (fun j hj => by simp at hj), Lib.hid (below_drewN (Below.refl _ _) _)⟩
  case round =>
  obtain ⟨k, hk, rfl, HR, HB⟩ := hrel
  by_cases hlt : k < l.length
  · obtain ⟨lb, lo, x, rfl, hx, hxw, hcx⟩ := ((HIX.out.below HB.out).at_ (j := k) hlt)
    have hxm : x ∈ rowF (B.d.fs.map (·.fr)) q := by rw [HL.out]; exact List.mem_of_getElem? hx
    obtain ⟨j, rfl, hj⟩ := rowF_mem.1 hxm
    rw [List.getElem?_map] at hj
    obtain ⟨f, hf, hfr⟩ : ∃ f, B.d.fs[j]? = some f ∧ f.fr = (q : Int) := by
      cases hh : B.d.fs[j]? with
      | none => rw [hh] at hj; cases hj
      | some f => rw [hh] at hj; exact ⟨f, rfl, by simpa using hj⟩
    have hjl : j < B.d.fs.length := (List.getElem?_eq_some_iff.1 hf).1
    have hbr : Below W.heap.size W wr := HBA.out.trans (HB.out.mono (by have := HSA.out; omega))
    have HMR := Lib.hid (hM.out.below hbr)
    obtain ⟨fb, fo, f', hfA, hf', hfw, hd0, hd1, hd2⟩ := (hD.out wr (hbr.mono hM.out.nle)).fins.at_ (j := j) hjl
    obtain rfl : f = f' := by rw [hf] at hf'; exact Option.some.inj hf'
    have hm5 := HMR.out.clo (i := 5) (by decide) rfl
    rw [hfA] at hm5
    have HF := Lib.hid hf
    have HFR := Lib.hid hfr
    have HX := Lib.hid hx
    have HBR := Lib.hid hbr
    have HLT := Lib.hid hlt
    obtain ⟨x0, hx0⟩ : ∃ z, f.fr = z := ⟨_, rfl⟩
    rw [hx0] at hd0
    have HXA2 : Hid (wr.heap[W.heap.size]? = some (.cells #[.int .i64 (q : Int), .int .i64 (wd.length : Int), .int .i64 c0, .int .i64 c1, .int .i64 c2, .int .i64 c3] 150 (0, 0))) := Lib.hid ((HB.out.block _ (by have := HSA.out; omega)).trans HXA.out)
    obtain ⟨xb, hxb⟩ : ∃ z, wr.heap.size = z := ⟨_, rfl⟩
    have hWxb : W.heap.size < xb := by have := HB.out.size; have := HSA.out; omega
    obtain ⟨w2, hw2⟩ : ∃ z, wr.alloc (.cells #[.int .i64 x0, .slice f.ga f.gs.length f.gc, .slice f.o.a f.o.l.length f.o.c] 134) = z := ⟨_, rfl⟩
    have hb2 : Below wr.heap.size wr w2 := by rw [← hw2]; exact (Below.refl _ _).alloc (Nat.le_refl _) _
    have hs2 : w2.heap.size = xb + 1 := by rw [← hw2, ← hxb]; simp
    have hx2 : w2.heap[xb]? = some (.cells #[.int .i64 x0, .slice f.ga f.gs.length f.gc, .slice f.o.a f.o.l.length f.o.c] 134 (0, 0)) := by rw [← hw2, ← hxb]; exact heap_alloc_new wr _
    have hx2w : w2.heap[W.heap.size]? = some (.cells #[.int .i64 (q : Int), .int .i64 (wd.length : Int), .int .i64 c0, .int .i64 c1, .int .i64 c2, .int .i64 c3] 150 (0, 0)) := (hb2.block _ (by omega)).trans HXA2.out
    have hbW2 : Below W.heap.size W w2 := hbr.trans (hb2.mono (by omega))
    have HB2 := Lib.hid hb2
    have HS2 := Lib.hid hs2
    have HX2 := Lib.hid hx2
    have HX2W := Lib.hid hx2w
    have HBW2 := Lib.hid hbW2
    have HWXB := Lib.hid hWxb
    have HXB := Lib.hid hxb
    have HM2 := Lib.hid (hM.out.below hbW2)
    have HK2 := HM2.out.has_st (G := fun W' => LLx f.ga f.gs W') (fun W' hW => ((hD.out W' ((hbW2.trans (hW.mono hbW2.size)).mono hM.out.nle)).fins.it f (List.mem_of_getElem? hf)).2.1)
    have hjl1 : (j : Int) < (B.d.fs.length : Int) := by omega
    have hj0 : (0 : Int) ≤ (j : Int) := by omega
    have hkl : (k : Int) < (l.length : Int) := by omega
    have hk0 : (0 : Int) ≤ (k : Int) := by omega
    have hqc : w2.cell? ⟨W.heap.size, 1, none⟩ = some (.int .i64 (wd.length : Int)) := by simp [World.cell?, hx2w]
    have hq2 : w2.cell? ⟨xb, 1, none⟩ = some (.slice f.ga f.gs.length f.gc) := by simp [World.cell?, hx2]
    clear hb2 hs2 hx2 hx2w hbW2 hbr hWxb hx hxm hj hf hfr hfA hf' hfw hx0 hlt
    by_cases hlen : f.gs.length = wd.length
    case neg =>
      have HNL := Lib.hid hlen
      have HN : Hid (∀ j' : Nat, (j' : Int) ∈ l.take (k + 1) → ¬ EndC B ((q : Int), wd) j') := Lib.hid fun j' hj' he => by
        rw [List.take_add_one, HX.out] at hj'
        rcases List.mem_append.1 hj' with h | h
        · exact HR.out j' h he
        · have e : j' = j := by simp at h; omega
          subst e
          obtain ⟨g, hg, _, h2, _⟩ := he
          rw [HF.out] at hg; injection hg with hg; subst hg
          exact HNL.out h2
      have hlen2 : ¬ (f.gs.length : Int) = (wd.length : Int) := by omega
      clear hlen
      go_wp2_with fail
      (try rw [hw2])
      go_roundw
      case rel => exact ⟨k + 1, by have := HLT.out; omega, by go_num, HN, Lib.hid (HB.out.trans (HB2.out.mono HB.out.size))⟩
      case measure => have := HLT.out; simp [intOf]; omega
    have HLEN := Lib.hid hlen
    have hq5 : w2.cell? ⟨W.heap.size, 2, none⟩ = some (.int .i64 c0) ∧ w2.cell? ⟨W.heap.size, 3, none⟩ = some (.int .i64 c1) ∧ w2.cell? ⟨W.heap.size, 4, none⟩ = some (.int .i64 c2) ∧ w2.cell? ⟨W.heap.size, 5, none⟩ = some (.int .i64 c3) := by
      have h2 := HX2W.out
      refine ⟨?_, ?_, ?_, ?_⟩ <;> simp [World.cell?, h2]
    obtain ⟨h52, h53, h54, h55⟩ := hq5
    rw [← hlen] at hqc
    clear hlen
    go_wp2_with fail
    obtain ⟨v, hv⟩ : ∃ v, pB (OnG B.ls (bodies f.gs) wd) = v := ⟨_, rfl⟩
    have hcall := has_st HK2 B.mb (fun _ h => h.1) (fun _ h => h.2) f.gc wd c0 c1 c2 c3 hwc hwd v (Lib.hid hv)
    rw [← HLEN.out] at hcall
    refine hcall.mono ?_
    rintro e w5 ⟨rfl, HK5⟩
    have hb5 : Below w2.heap.size w2 w5 := HK5.out.2
    have hs5 := hb5.size
    have hx5 : w5.heap[xb]? = some (.cells #[.int .i64 x0, .slice f.ga f.gs.length f.gc, .slice f.o.a f.o.l.length f.o.c] 134 (0, 0)) := (hb5.block _ (by have := HS2.out; omega)).trans HX2.out
    have hbW5 : Below W.heap.size W w5 := HBW2.out.trans (hb5.mono HBW2.out.size)
    have HB5 := Lib.hid hb5
    have HX5 := Lib.hid hx5
    have HBW5 := Lib.hid hbW5
    have HV := Lib.hid hv
    have HS5 : Hid (xb < w5.heap.size) := Lib.hid (by have := HS2.out; omega)
    clear hcall hb5 hx5 hbW5 hv hqc hq2 h52 h53 h54 h55 hs5 HK5 HK2
    rcases v with _ | _
    · have HN : Hid (∀ j' : Nat, (j' : Int) ∈ l.take (k + 1) → ¬ EndC B ((q : Int), wd) j') := Lib.hid fun j' hj' he => by
        rw [List.take_add_one, HX.out] at hj'
        rcases List.mem_append.1 hj' with h | h
        · exact HR.out j' h he
        · have e : j' = j := by simp at h; omega
          subst e
          obtain ⟨g, hg, _, _, h2⟩ := he
          rw [HF.out] at hg; injection hg with hg; subst hg
          exact Bool.noConfusion (pB_t HV.out h2)
      go_wp2_with fail
      go_roundw
      case rel => exact ⟨k + 1, by have := HLT.out; omega, by go_num, HN, Lib.hid (HB.out.trans ((HB2.out.trans (HB5.out.mono HB2.out.size)).mono HB.out.size))⟩
      case measure => have := HLT.out; simp [intOf]; omega
    have HEC : Hid (endF B ((q : Int), wd) = some j) := Lib.hid (endF_some ⟨f, HF.out, HFR.out, HLEN.out, Classical.byContradiction fun hn => by have h := pB_f HV.out hn; cases h⟩ fun j' hj' he => by
      obtain ⟨g, hg, hge, _⟩ := id he
      exact HR.out j' (by
        rw [← HL.out]
        exact rowF_ahead (y := k) (j := j) (by rw [HL.out]; exact HX.out) hj' (by rw [List.getElem?_map, hg]; simp [hge])) he)
    have HM5 := Lib.hid (hM.out.below HBW5.out)
    have hj64 : I64 (j : Int) := by have := (List.getElem?_eq_some_iff.1 HF.out).1; unfold I64; omega
    have hlk := idxM_look HM5.out.em j hj64 w5 rfl
    have hm12 := HM5.out.clo (i := 12) (by decide) rfl
    by_cases hm : j ∈ V.es.map (·.1)
    · have hPE : putE B S ((q : Int), wd) = S := by
        unfold putE; rw [HEC.out]
        show ({ S with ends := putL S.ends j } : LayS) = S
        rw [show putL S.ends j = S.ends by unfold putL; rw [if_pos (by rw [← HSE.out]; exact hm)]]
      have HPE := Lib.hid hPE
      have HMM := Lib.hid hm
      rw [if_pos hm] at hlk
      rw [show decide (j ∈ V.es.map (·.1)) = true by simpa using hm] at hlk
      have HFIN : Hid (RetLay B V (putE B S ((q : Int), wd)) (endI B S ((q : Int), wd)) W (.returned (.int .i64 ((V.es.map (·.1)).idxOf j : Nat))) w5) := Lib.hid (by
        refine ⟨V, ?_, Lib.hid HM5.out, Lib.hid (MkF.of_below HBW5.out hM.out.nle), by rw [HPE.out]; exact hS, rfl⟩
        unfold endI; rw [HEC.out]
        show _ = Ending.returned (.int .i64 (((putL S.ends j).idxOf j : Nat) : Int))
        rw [HSE.out, show putL S.ends j = S.ends by unfold putL; rw [if_pos (by rw [← HSE.out]; exact HMM.out)]])
      clear hm hPE
      go_wp2_with fail
      go_ret
      exact HFIN.out
    have hPE : putE B S ((q : Int), wd) = { S with ends := S.ends ++ [j] } := by
      unfold putE; rw [HEC.out]
      show ({ S with ends := putL S.ends j } : LayS) = _
      rw [show putL S.ends j = S.ends ++ [j] by unfold putL; rw [if_neg (by rw [← HSE.out]; exact hm)]]
    have HPE := Lib.hid hPE
    have HNM := Lib.hid hm
    rw [if_neg hm] at hlk
    rw [show decide (j ∈ V.es.map (·.1)) = false by simpa using hm] at hlk
    have hm271 := HM5.out.chi (j := 2) rfl
    obtain ⟨wB, hrun, hMB, hGB, hSB⟩ := idxM_put HM5.out.em j hj64 hm (by rw [List.length_map]; exact hel)
    rw [List.length_map] at hrun
    have HMB := Lib.hid hMB
    have HGB := Lib.hid hGB
    have HSB := Lib.hid hSB
    have HJ64 := Lib.hid hj64
    clear hm hPE hMB hGB hSB hj64
    go_wp2_with fail
    have hAB : ∀ k, k < w5.heap.size → k ≠ B.eb → wB.heap[k]? = w5.heap[k]? := fun k hk hn => HGB.out.block k hk (fun e => hn (by injection e))
    have HAB := Lib.hid hAB
    have hmn : B.mb ≠ B.eb := cells_ne_map HM5.out.box HM5.out.em
    have hWn : xb ≠ B.eb := fun e => by have := hM.out.em.lt; have := HWXB.out; omega
    have hmx : B.mb ≠ xb := fun e => by have := hM.out.mlt; have := HWXB.out; omega
    obtain ⟨w4, hw4⟩ : ∃ z, wB.drew = z := ⟨_, rfl⟩
    have hh4 : w4.heap = wB.heap := by rw [← hw4]; rfl
    have HH4 := Lib.hid hh4
    have hb4m : w4.heap[B.mb]? = some (.cells (mkCells B V).toArray 143 (0, 0)) := by rw [hh4, hAB _ HM5.out.mlt hmn]; exact HM5.out.box
    have hb4x : w4.heap[xb]? = some (.cells #[.int .i64 x0, .slice f.ga f.gs.length f.gc, .slice f.o.a f.o.l.length f.o.c] 134 (0, 0)) := by rw [hh4, hAB _ HS5.out hWn]; exact HX5.out
    have h271 : ∀ w' : World, w'.heap[B.mb]? = w4.heap[B.mb]? → w'.cell? ⟨B.mb, 271, none⟩ = some (.slice V.ea V.es.length V.ec) := fun w' h => by
      have h2 := h.trans hb4m
      have h3 := mkCells_hi B V hM.out.cl 2
      simp only [World.cell?, h2]
      simpa [mkTail] using h3
    have hx5 : ∀ w' : World, w'.heap[xb]? = w4.heap[xb]? → w'.cell? ⟨xb, 2, none⟩ = some (.slice f.o.a f.o.l.length f.o.c) := fun w' h => by
      have h2 := h.trans hb4x
      simp [World.cell?, h2]
    have hs4 : w4.heap.size = w5.heap.size := by rw [hh4]; exact HSB.out
    have hbel4 : Below B.n W w4 := by
      rw [← hw4]
      exact ((HBW5.out.mono hM.out.nle).grown HGB.out HM5.out.nle (fun k hk => by injection hk with hk; rw [← hk]; exact HM5.out.lo.2.2.2)).drew
    have HBEL4 := Lib.hid hbel4
    have H271 := Lib.hid h271
    have HXX5 := Lib.hid hx5
    have HS4 := Lib.hid hs4
    have HB4M := Lib.hid hb4m
    have hfm := List.mem_of_getElem? HF.out
    have HTO : Hid (TermsAt f.o.a f.o.l w4) := Lib.hid ((hD.out w4 hbel4).fins.it f hfm).2.2
    have hol := hout.out f hfm
    have hop := hO.out.parts.2 f hfm
    have h4a := h271 w4 rfl
    have h4b := hx5 w4 rfl
    have HMN := Lib.hid (And.intro hmn (And.intro hWn hmx))
    clear hAB hh4 hb4m hb4x h271 hx5 hs4 hbel4 hmn hWn hmx hfm
    refine wp_region_Z 14 (by kernel_rfl) (fun V' => V'.cell? ⟨B.mb, 271, none⟩ = some (.slice V.ea V.es.length V.ec) ∧ V'.cell? ⟨xb, 2, none⟩ = some (.slice f.o.a f.o.l.length f.o.c)) (by rw [hw4]; exact ⟨h4a, h4b⟩) (fun hHeld => ?_)
    refine wpAnyZ_take (i := 0) (v := ?_) rfl (by kernel_rfl) (by kernel_rfl) (by kernel_rfl) (by kernel_rfl) (fun _ _ _ h => h) (Or.inl ⟨by first | kernel_rfl | rfl, ?_⟩) (by assumption) ?_
    rotate_left
    · intro w hSw; (try dsimp only at hSw); go_simp; (try with_reducible rfl)
    (try simp only [Act.put, List.getElem_toArray, List.getElem_cons_succ, List.getElem_cons_zero, List.setIfInBounds_toArray, List.set_cons_zero, List.set_cons_succ])
    refine wpAnyZ_take (i := 1) (v := ?_) rfl (by kernel_rfl) (by kernel_rfl) (by kernel_rfl) (by kernel_rfl) (fun _ _ _ h => h) (Or.inl ⟨by first | kernel_rfl | rfl, ?_⟩) (by assumption) ?_
    rotate_left
    · intro w hSw; (try dsimp only at hSw); go_simp; (try with_reducible rfl)
    (try simp only [Act.put, List.getElem_toArray, List.getElem_cons_succ, List.getElem_cons_zero, List.setIfInBounds_toArray, List.set_cons_zero, List.set_cons_succ])
    refine wpAnyZ_take (i := 2) (v := ?_) rfl (by kernel_rfl) (by kernel_rfl) (by kernel_rfl) (by kernel_rfl) (fun _ _ _ h => h) (Or.inl ⟨by first | kernel_rfl | rfl, ?_⟩) (by assumption) ?_
    rotate_left
    · intro w hSw; (try dsimp only at hSw); go_simp; (try with_reducible rfl)
    (try simp only [Act.put, List.getElem_toArray, List.getElem_cons_succ, List.getElem_cons_zero, List.setIfInBounds_toArray, List.set_cons_zero, List.set_cons_succ])
    refine wpAnyZ_take (i := 3) (v := ?_) rfl (by kernel_rfl) (by kernel_rfl) (by kernel_rfl) (by kernel_rfl) (fun _ _ _ h => h) (Or.inl ⟨by first | kernel_rfl | rfl, ?_⟩) (by assumption) ?_
    rotate_left
    · intro w hSw; (try dsimp only at hSw); go_simp; (try with_reducible rfl)
    (try simp only [Act.put, List.getElem_toArray, List.getElem_cons_succ, List.getElem_cons_zero, List.setIfInBounds_toArray, List.set_cons_zero, List.set_cons_succ])
    refine wpAnyZ_take (i := 4) (v := ?_) rfl (by kernel_rfl) (by kernel_rfl) (by kernel_rfl) (by kernel_rfl) (fun _ _ _ h => h) (Or.inl ⟨by first | kernel_rfl | rfl, ?_⟩) (by assumption) ?_
    rotate_left
    · intro w hSw; (try dsimp only at hSw); go_simp; (try with_reducible rfl)
    (try simp only [Act.put, List.getElem_toArray, List.getElem_cons_succ, List.getElem_cons_zero, List.setIfInBounds_toArray, List.set_cons_zero, List.set_cons_succ])
    refine wpAnyZ_take (i := 5) (v := ?_) rfl (by kernel_rfl) (by kernel_rfl) (by kernel_rfl) (by kernel_rfl) (fun _ _ _ h => h) (Or.inl ⟨by first | kernel_rfl | rfl, ?_⟩) (by assumption) ?_
    rotate_left
    · intro w hSw; (try dsimp only at hSw); go_simp; (try with_reducible rfl)
    (try simp only [Act.put, List.getElem_toArray, List.getElem_cons_succ, List.getElem_cons_zero, List.setIfInBounds_toArray, List.set_cons_zero, List.set_cons_succ])
    refine wpAnyZ_take (i := 6) (v := ?_) rfl (by kernel_rfl) (by kernel_rfl) (by kernel_rfl) (by kernel_rfl) (fun _ _ _ h => h) (Or.inl ⟨by first | kernel_rfl | rfl, ?_⟩) (by assumption) ?_
    rotate_left
    · intro w hSw; (try dsimp only at hSw); go_simp; (try with_reducible rfl)
    (try simp only [Act.put, List.getElem_toArray, List.getElem_cons_succ, List.getElem_cons_zero, List.setIfInBounds_toArray, List.set_cons_zero, List.set_cons_succ])
    refine wpAnyZ_take (i := 7) (v := ?_) rfl (by kernel_rfl) (by kernel_rfl) (by kernel_rfl) (by kernel_rfl) (fun _ _ _ h => h) (Or.inl ⟨by first | kernel_rfl | rfl, ?_⟩) (by assumption) ?_
    rotate_left
    · intro w hSw; (try dsimp only at hSw); go_simp; (try with_reducible rfl)
    (try simp only [Act.put, List.getElem_toArray, List.getElem_cons_succ, List.getElem_cons_zero, List.setIfInBounds_toArray, List.set_cons_zero, List.set_cons_succ])
    rw [hw4]
    refine wpAnyZ_ready (i := 8) (by kernel_rfl) rfl (fun K hK => ?_)
    go_simp
    refine (own_st w4 HTO.out hol hop f.o.c).mono ?_
    rintro e w6 ⟨A5, c5, l5, rfl, HL5, HD5, HB6, HF5⟩
    have hB6m : w6.heap[B.mb]? = w4.heap[B.mb]? := HB6.out.block _ (by have := HM5.out.mlt; have := HS4.out; omega)
    have hB6x : w6.heap[xb]? = w4.heap[xb]? := HB6.out.block _ (by have := HS4.out; have := HS5.out; omega)
    have h6a := H271.out w6 hB6m
    have h6b := HXX5.out w6 hB6x
    refine hK.out _ _ (⟨h6a, h6b⟩) (fun hHeld => ?_)
    clear hK K
    (try simp only [Act.put, List.getElem_toArray, List.getElem_cons_succ, List.getElem_cons_zero, List.setIfInBounds_toArray, List.set_cons_zero, List.set_cons_succ])
    refine wpAnyZ_ready (i := 9) (by kernel_rfl) rfl (fun K hK => ?_)
    go_simp
    refine hK.out _ _ (⟨cellAl _ h6a, cellAl _ h6b⟩) (fun hHeld => ?_)
    clear hK K
    (try simp only [Act.put, List.getElem_toArray, List.getElem_cons_succ, List.getElem_cons_zero, List.setIfInBounds_toArray, List.set_cons_zero, List.set_cons_succ])
    have hs6 := HB6.out.size
    have hA6 : ∀ k, k < w5.heap.size → k ≠ B.eb → w6.heap[k]? = w5.heap[k]? := fun k hk hn => (HB6.out.block k (by have := HS4.out; omega)).trans (by rw [HH4.out]; exact HAB.out k hk hn)
    have HA6 := Lib.hid hA6
    have HEL : Hid (w6.ownsRow B.n 57 1 (.slice V.ea V.es.length V.ec) V.es.length (V.es.flatMap fun y => [OutI.v y.2])) := Lib.hid (own_keep HM5.out.el fun k hk => hA6 k (own_ty HM5.out.el hk).2.1 (fun e => own_ne_map HM5.out.el HM5.out.em (e ▸ hk)))
    obtain ⟨i0, hi, hz0, hz1, hz2⟩ := info_parts infoEndM
    have hl40 : V.es.length < 1099511627776 := by omega
    have hn6 : B.n ≤ w6.heap.size := by have := HM5.out.nle; have := HS4.out; omega
    clear hA6
    refine wpAnyZ_ready (i := 10) (by kernel_rfl) rfl (fun K hK => ?_)
    refine step_pushG rfl _ _ 47 rfl B.n 57 i0 _ 1 24 Tryz.underlying47 hi hz0 hz1 hz2 rfl (by decide) HEL.out rfl [.slice A5 l5.length c5] 57 rfl rfl (by simp [Value.oneCell']) hl40 (by decide) hn6 ?_
    intro A9 c9 w9 HO9 HG9 HN9
    have hpm : ownA V.ea ≠ some B.mb := own_ne_cells HM5.out.el HM5.out.box tyTM
    have hpx : ownA V.ea ≠ some xb := fun e => by have := (own_ty hM.out.el e).2.1; have := HWXB.out; omega
    have hml : B.mb < w6.heap.size := by have := HM5.out.mlt; have := HS4.out; omega
    have hxl : xb < w6.heap.size := by have := HS5.out; have := HS4.out; omega
    have h9m : w9.heap[B.mb]? = w4.heap[B.mb]? := (HG9.out.block _ (by simp; omega) (fun e => hpm e.symm)).trans ((Below.heap_alloc _ _ _ hml).trans hB6m)
    have h9x : w9.heap[xb]? = w4.heap[xb]? := (HG9.out.block _ (by simp; omega) (fun e => hpx e.symm)).trans ((Below.heap_alloc _ _ _ hxl).trans hB6x)
    have h9a := H271.out w9 h9m
    have h9b := HXX5.out w9 h9x
    have h9f : w9.frozen? ⟨B.mb, 271, none⟩ = false := by
      have := h9m.trans HB4M.out
      simp [World.frozen?, this]
    refine hK.out _ _ (⟨h9a, h9b⟩) (fun hHeld => ?_)
    clear hK K
    (try simp only [Act.put, List.getElem_toArray, List.getElem_cons_succ, List.getElem_cons_zero, List.setIfInBounds_toArray, List.set_cons_zero, List.set_cons_succ])
    refine wpAnyZ_ready (i := 11) (by kernel_rfl) rfl (fun K hK => ?_)
    go_simp
    refine hK.out _ _ (⟨h9a, h9b⟩) (fun hHeld => ?_)
    clear hK K
    (try simp only [Act.put, List.getElem_toArray, List.getElem_cons_succ, List.getElem_cons_zero, List.setIfInBounds_toArray, List.set_cons_zero, List.set_cons_succ])
    refine wpAnyZ_ready (i := 12) (by kernel_rfl) rfl (fun K hK => ?_)
    go_simp
    refine hK.out _ _ (⟨h9a, h9b⟩) (fun hHeld => ?_)
    clear hK K
    (try simp only [Act.put, List.getElem_toArray, List.getElem_cons_succ, List.getElem_cons_zero, List.setIfInBounds_toArray, List.set_cons_zero, List.set_cons_succ])
    refine wpAnyZ_take (i := 13) (v := ?_) rfl (by kernel_rfl) (by kernel_rfl) (by kernel_rfl) (by kernel_rfl) (fun _ _ _ h => h) (Or.inl ⟨by first | kernel_rfl | rfl, ?_⟩) (by assumption) ?_
    rotate_left
    · intro w hSw; (try dsimp only at hSw); go_simp; (try with_reducible rfl)
    (try simp only [Act.put, List.getElem_toArray, List.getElem_cons_succ, List.getElem_cons_zero, List.setIfInBounds_toArray, List.set_cons_zero, List.set_cons_succ])
    refine wpAnyZ_last (i := 14) rfl (by kernel_rfl) (by kernel_rfl) rfl (fun K hK => ?_)
    go_simp
    refine hK.out _ _ ?_
    obtain ⟨w10, hw10⟩ : ∃ z, w9.setCell ⟨B.mb, 271, none⟩ (.slice A9 (V.es.length + 1) c9) = z := ⟨_, rfl⟩
    have hst : ∀ k, k ≠ B.mb → w10.heap[k]? = w9.heap[k]? := fun k hk => by rw [← hw10]; exact heap_setCell_other _ _ _ _ hk
    have hs9 := HG9.out.size
    simp at hs9
    have hs10 : w10.heap.size = w9.heap.size := by rw [← hw10]; simp
    have hlen : (V.es ++ [(j, (⟨A5, c5, l5⟩ : OutI))]).length = V.es.length + 1 := by simp
    have hnewA : ∀ g, ownA A9 = some g → ownA V.ea = some g ∨ w6.heap.size + 1 ≤ g := fun g hg => by
      rcases HN9.out with e2 | ⟨q, e2, hq⟩
      · rw [e2] at hg; exact .inl hg
      · rw [e2] at hg; injection hg with hg; right; omega
    have hchain : ∀ k, k < w5.heap.size → k ≠ B.mb → k ≠ B.eb → ownA V.ea ≠ some k → w10.heap[k]? = w5.heap[k]? := fun k hk h1 h2 h3 =>
      (hst k h1).trans ((HG9.out.block k (by have := HS4.out; simp; omega) (fun e => h3 e.symm)).trans ((Below.heap_alloc _ _ _ (by have := HS4.out; omega)).trans (HA6.out k hk h2)))
    have hMk := HM5.out.afterEnd (W3 := w10) (a := A9) (c := c9) (x := (j, ⟨A5, c5, l5⟩)) (by have := HS4.out; omega) hchain
      (by
        rw [← hw10, heap_setCell_same w9 B.mb 271 _ _ _ (h9m.trans HB4M.out), List.setIfInBounds_toArray, ← hlen, mkCells_set271 B V hM.out.cl]; rfl)
      (by
        rw [hlen, List.flatMap_append]
        have h := own_keep HO9.out (w' := w10) (fun k hk => hst k (fun e => by
          rcases hnewA k hk with e2 | e2
          · exact hpm (e ▸ e2)
          · omega))
        simpa [OutI.v] using h)
      (by
        rw [List.map_append]
        refine HMB.out.same ((hst _ HMN.out.1.symm).trans ((HG9.out.block _ (by have := HM5.out.em.lt; have := HS4.out; simp; omega) (fun e => own_ne_map HM5.out.el HM5.out.em e.symm)).trans ((Below.heap_alloc _ _ _ (by have := HM5.out.em.lt; have := HS4.out; omega)).trans ((HB6.out.block _ (by have := HM5.out.em.lt; have := HS4.out; omega)).trans (by rw [HH4.out]))))))
      (fun g hg => by
        rcases hnewA g hg with e2 | e2
        · exact .inl e2
        · right; have := HS4.out; omega)
      (fun U hU => HD5.out U fun k hk hl => by
        have hfree : ¬ Mut B (withE V A9 c9 (V.es ++ [(j, ⟨A5, c5, l5⟩)])) k := fun hm => by
          have hs4 := HS4.out
          rcases hm with e | e | e | e | e | e | e | e
          · have := HM5.out.mlt; omega
          · have := HM5.out.num.lt; omega
          · have := HM5.out.am.lt; omega
          · have := HM5.out.em.lt; omega
          · have := (own_ty HM5.out.pl e).2.1; omega
          · have := (own_ty HM5.out.al e).2.1; omega
          · rcases hnewA k e with e2 | e2
            · have := (own_ty HM5.out.el e2).2.1; omega
            · omega
          · have := (own_ty HM5.out.nl e).2.1; omega
        refine (hU k ⟨hfree, fun ha => by have := HM5.out.avl k ha; have := HS4.out; omega⟩ (by omega)).trans ((hst k (fun e => hfree (.inl e))).trans ((HG9.out.block k (by simp; omega) (fun e => ?_)).trans (Below.heap_alloc _ _ _ hl)))
        have := (own_ty HM5.out.el e.symm).2.1
        have := HS4.out
        omega)
    have HFIN : Hid (RetLay B V (putE B S ((q : Int), wd)) (endI B S ((q : Int), wd)) W (.returned (.int .i64 (V.es.length : Int))) w10) := Lib.hid (by
      refine ⟨_, ?_, Lib.hid hMk.1, Lib.hid ⟨?_, fun k hk hn => ?_, fun k hk hm => hMk.2 k (by have := HBW5.out.size; omega) hm⟩, Lib.hid ?_, rfl⟩
      · unfold endI; rw [HEC.out]
        show _ = Ending.returned (.int .i64 (((putL S.ends j).idxOf j : Nat) : Int))
        have hni : j ∉ S.ends := by rw [← HSE.out]; exact HNM.out
        have hnd : (S.ends ++ [j]).Nodup := by
          rw [← HSE.out]
          obtain ⟨_, _, _, _, h3, _⟩ := hM.out.em
          rw [idxM_fst] at h3
          exact List.nodup_append.2 ⟨nodup_of_map _ h3, by simp, fun a ha b hb e => HNM.out (by rw [List.mem_singleton] at hb; rw [← hb, ← e]; exact ha)⟩
        rw [show putL S.ends j = S.ends ++ [j] by unfold putL; rw [if_neg hni], idxOf_at (i := S.ends.length) hnd (by simp), ← HSE.out, List.length_map]
      · have h1 : Below B.n W w6 := HBEL4.out.trans (HB6.out.mono (by have := HM5.out.nle; have := HS4.out; omega))
        have h2 := ((h1.alloc hn6 (.cells [.slice A5 l5.length c5].toArray 57)).grown HG9.out (by simp; omega) (fun k hk => (own_ty HM5.out.el hk).1)).setCell (p := ⟨B.mb, 271, none⟩) hM.out.lo.1 (.slice A9 (V.es.length + 1) c9)
        rw [hw10] at h2
        exact h2
      · exact (hchain k (by have := HBW5.out.size; omega) (fun e => hn (.inl e)) (fun e => hn (.inr (.inr (.inr (.inl e))))) (fun e => hn (.inr (.inr (.inr (.inr (.inr (.inr (.inl e)))))))) ).trans (HBW5.out.block k hk)
      · refine ⟨?_, ?_, ?_, ?_, ?_⟩
        · rw [HPE.out]; exact hS.out.ps
        · rw [HPE.out]; exact hS.out.acts
        · rw [HPE.out]
          show List.map (fun (x : Nat × OutI) => x.1) (V.es ++ [(j, ⟨A5, c5, l5⟩)]) = S.ends ++ [j]
          rw [List.map_append, HSE.out]; rfl
        · exact hS.out.aok
        · intro x hx
          rcases List.mem_append.1 hx with hx | hx
          · exact hS.out.eok x hx
          · rw [List.mem_singleton] at hx
            subst hx
            refine ⟨f, HF.out, ?_⟩
            show l5.map TermI.L = f.o.l.map TermI.L
            rw [HL5.out])
    clear hHeld hK K h9m h9x h9a h9b h9f hpm hpx hml hst hs9 hs10 hnewA hchain hMk hB6m hB6x h6a h6b hw4 h4a h4b
    (try simp only [Act.put, List.getElem_toArray, List.getElem_cons_succ, List.getElem_cons_zero, List.setIfInBounds_toArray, List.set_cons_zero, List.set_cons_succ])
    go_wp2_with fail
    (try rw [hw10])
    go_ret
    exact HFIN.out
  · obtain rfl : k = l.length := by omega
    have hd : decide (l.length < l.length) = false := by simp
    have HNO : Hid (endF B ((q : Int), wd) = none) := Lib.hid (endF_none fun j hj => by
      obtain ⟨f, hf, he, _⟩ := id hj
      refine HR.out j ?_ hj
      rw [List.take_length, ← HL.out]
      exact rowF_mem.2 ⟨j, rfl, by rw [List.getElem?_map, hf]; simp [he]⟩)
    have HFIN : Hid (RetLay B V (putE B S ((q : Int), wd)) (endI B S ((q : Int), wd)) W (.returned (.int .i64 (-1))) wr) := Lib.hid (by
      have hb : Below W.heap.size W wr := HBA.out.trans (HB.out.mono (by have := HSA.out; omega))
      refine ⟨V, ?_, Lib.hid (hM.out.below hb), Lib.hid (MkF.of_below hb hM.out.nle), Lib.hid ?_, rfl⟩
      · unfold endI; rw [HNO.out]
      · unfold putE; rw [HNO.out]; exact hS.out)
    go_wp2_with fail
    go_ret
    exact HFIN.out
end Go.Proofs.YtlmkokeapbleoaaGreat
end
