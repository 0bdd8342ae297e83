/- umlautlaw12.BoxSides: the walk. Of a set and of all numbers beyond it, whatever they are, a window of the guards is in a box of one of the two just if the term has a value of it. Condition: none beyond the row's own. -/
import Derived.Test.YtpmhdjiacgckjaaM24
namespace Go.Proofs.Ytpmhdjiacgckjaa
open Go.RowKit
set_option linter.unusedVariables false
set_option linter.unusedSimpArgs false
theorem sides_cnt {T : TermL} {Gs : List (List Sp)} {gl r0 : List Sp} {B1 B2 : List (List (List Sp))} (hs : SmallN T.base) (h1 : BoxSaid T Gs gl B1) (h2 : BoxSaid T Gs r0 B2) (hr : Rep r0 (fun x => Mem [(-1073741824, 1073741824)] x ∧ ¬ Mem gl x)) {w : List Int} (hw : hitM Gs w) :
    (ValOk T w → cntB B1 w + cntB B2 w = 1) ∧ (¬ ValOk T w → cntB B1 w + cntB B2 w = 0) := by
  have hv : -1073741824 ≤ valN T w ∧ valN T w ≤ 1073741824 := by
    have := vNum_bd T.drop T.take T.up (innerT T w)
    unfold SmallN at hs
    unfold valN
    omega
  have hm : Mem r0 (valN T w) ↔ ¬ Mem gl (valN T w) := by
    rw [hr.mem, mem_all]
    exact ⟨fun h => h.2, fun h => ⟨hv, h⟩⟩
  constructor
  · intro ho
    by_cases hg : Mem gl (valN T w)
    · rw [(h1.cnt w).1 ⟨hw, ho, hg⟩, (h2.cnt w).2 (fun h => hm.1 h.2.2 hg)]
    · rw [(h1.cnt w).2 (fun h => hg h.2.2), (h2.cnt w).1 ⟨hw, ho, hm.2 hg⟩]
  · intro ho
    rw [(h1.cnt w).2 (fun h => ho h.2.1), (h2.cnt w).2 (fun h => ho h.2.1)]
theorem all_lst (b : Nat) (W : World) (t : TypeId) (h : W.heap[b]? = some (.cells #[.int .i64 (-1073741824), .int .i64 1073741824] t (0, 0))) : Lst (some ⟨b, 0, none⟩) [((-1073741824 : Int), (1073741824 : Int))] W := one_lst h (by omega)
theorem said_of {T : TermL} {Gs : List (List Sp)} {gl : List Sp} {r : Int × List (List (List Sp))} (h : boxesR T Gs gl = r) (h0 : r.1 = 0) : BoxOk (Gs.length : Int) T ∧ BoxSaid T Gs gl r.2 := by
  have hOk : BoxOk (Gs.length : Int) T := Classical.byContradiction fun hn => by
    have h1 : (boxesR T Gs gl).1 = 1 := boxes_arg.2 hn
    rw [h, h0] at h1; cases h1
  exact ⟨hOk, boxes_said hOk (h.trans (by rw [← h0]))⟩
set_option maxRecDepth 100000 in
set_option maxHeartbeats 32000000 in
theorem BoxSides_walk (b d t u s : Int) (pa : Option Addr) (pc : Nat) (ps : List PartL) (A : Option Addr) (n c : Nat) (L : List Lst3) (G : Option Addr) (m cg : Nat) (gl : List Sp) (B : Option Addr) (cB : Nat) (xs : List Int) (w : World)
    (hI : I64 b ∧ I64 d ∧ I64 t ∧ I64 u ∧ I64 s) (hP : PartsAt pa ps w) (hs : SssIn w A n L) (hsg : Spans w G m gl) (hwg : SpW gl) (hng : m ≤ 9223372036854775807) (hr : RunesAt B xs w) (hl : xs.length ≤ cB) (hc : cB ≤ 9223372036854775807) :
    Calls Try.prog 7 #[.agg #[.int .i64 b, .int .i64 d, .int .i64 t, .int .i64 u, .int .i64 s, .slice pa ps.length pc], .slice A n c, .slice G m cg, .slice B xs.length cB] w fun e w' => e = .returned (.bool true) ∧ Below w.heap.size w w' := by
  obtain rfl := hsg.len
  obtain rfl := hs.1.len
  have HK0 : Hid (St w w (fun V => PartsAt pa ps V ∧ SssIn V A L.length L ∧ Spans V G gl.length gl ∧ RunesAt B xs V)) := Lib.hid (St.start fun V hV => ⟨hP.below hV, ⟨Items.below hs.1 SpI.lasts hV, hs.2⟩, hsg.below hV, hr.below hV⟩)
  have HK := St.box HK0 [.int .i64 b, .int .i64 d, .int .i64 t, .int .i64 u, .int .i64 s, .slice pa ps.length pc] 24
  have hps := hP.ln
  have HWG := Lib.hid hwg
  obtain ⟨q0, q1, q2, q3, q4, q5⟩ := HK.out.now.1.c6
  have HI := Lib.hid hI
  have HG8 := Lib.hid (great12_st HK (fun _ h => h.2.2.1) b d t u s pa ps.length pc hps c G gl.length cg)
  clear hI hP hs hsg hwg hng hr hl hc hps
  go_enter Try.func7, Try.ntmps7
  go_wp2_with fail
  refine HG8.out.mono ?_
  rintro e w1 ⟨v, rfl, HV, HK1⟩
  clear HG8 q0 q1 q2 q3 q4 q5
  have HKA : Hid (St w w1 (fun _ => True)) := Lib.hid (HK1.out.weaken fun _ _ => trivial)
  cases v with
  | true =>
    go_wp2_with fail
    refine (awake12_st HKA).mono ?_
    rintro e w9 ⟨rfl, HK9⟩
    go_wp2_with fail
    go_ret
    exact ⟨rfl, HK9.out.2⟩
  | false =>
  by_cases hxl : ¬ xs.length = L.length
  · have hx1 : ((xs.length : Int) == (L.length : Int)) = false := by rw [beq_eq_false_iff_ne]; omega
    have hx2 : ((xs.length : Int) != (L.length : Int)) = true := by rw [bne_iff_ne]; omega
    clear hxl
    go_wp2_with fail
    refine (awake12_st HKA).mono ?_
    rintro e w9 ⟨rfl, HK9⟩
    go_wp2_with fail
    go_ret
    exact ⟨rfl, HK9.out.2⟩
  have HXL : Hid (xs.length = L.length) := Lib.hid (Classical.byContradiction hxl)
  have hx1 : ((xs.length : Int) == (L.length : Int)) = true := by rw [beq_iff_eq, HXL.out]
  have hx2 : ((xs.length : Int) != (L.length : Int)) = false := by rw [bne_eq_false_iff_eq, HXL.out]
  clear hxl
  have hgr := HV.out rfl
  obtain ⟨hg1, hg2, hg3, hg4⟩ := hgr
  have HK2 : Hid (St w w1 (fun V => F12 A L G gl pa ps V ∧ RunesAt B xs V ∧ BoxC w.heap.size [.int .i64 b, .int .i64 d, .int .i64 t, .int .i64 u, .int .i64 s, .slice pa ps.length pc] V)) := Lib.hid (HK1.out.weaken fun V h => ⟨⟨h.2.1, ⟨⟨h.2.2.1.1.sl, fun i hi => SpI.lst (h.2.2.1.1.it i hi) (hg4 i hi)⟩, h.2.2.1.2⟩, ⟨h.2.2.2.1, HWG.out, by omega⟩⟩, h.2.2.2.2, h.1⟩)
  clear HK HK1 HK0 HV hg4 hg1 hg2
  go_wp2_with fail
  go_loopw [9] (fun iv wr => ∃ (j : Nat), j ≤ xs.length ∧ iv = .int .i64 j ∧ Hid (∀ (i : Nat) g x, i < j → (bodies L)[i]? = some g → xs[i]? = some x → Mem g x) ∧ Hid (St w wr (fun V => F12 A L G gl pa ps V ∧ RunesAt B xs V ∧ BoxC w.heap.size [.int .i64 b, .int .i64 d, .int .i64 t, .int .i64 u, .int .i64 s, .slice pa ps.length pc] V))) (fun iv _ => xs.length - (intOf iv).toNat)
  case atStart => exact ⟨0, Nat.zero_le _, rfl, Lib.hid (fun i g x hi => by omega), HK2⟩
  case round =>
  clear HK2 HKA hx1 hx2
  obtain ⟨j, hj, rfl, HTH, HK8⟩ := hrel
  by_cases hlt : j < xs.length
  · obtain ⟨gb, go, ga, gc, g, hA, hLx, hgb, hcg, hlg⟩ := HK8.out.now.1.2.1.at_ (k := j) (by rw [← HXL.out]; exact hlt)
    obtain ⟨rb, ro, x, hB, hx, hxw, hcx⟩ := HK8.out.now.2.1.at_ hlt
    subst hA
    subst hB
    obtain ⟨v, hv⟩ : ∃ v, hasB g x = v := ⟨_, rfl⟩
    have HVV := Lib.hid hv
    have HN2 : Hid (v = true → ∀ (i : Nat) g x, i < j + 1 → (bodies L)[i]? = some g → xs[i]? = some x → Mem g x) := Lib.hid fun h i g' x' hi hg hx' => by
      rcases Nat.lt_succ_iff_lt_or_eq.1 hi with hi | rfl
      · exact HTH.out i g' x' hi hg hx'
      · rw [hgb] at hg; injection hg with hg; subst hg
        rw [hx] at hx'; injection hx' with hx'; subst hx'
        exact (hasB_iff _ _).1 (hv.trans h)
    have HKd : Hid (St w wr.drew (fun V => Lst ga g V ∧ F12 (some ⟨gb, go, none⟩) L G gl pa ps V ∧ RunesAt (some ⟨rb, ro, none⟩) xs V ∧ BoxC w.heap.size [.int .i64 b, .int .i64 d, .int .i64 t, .int .i64 u, .int .i64 s, .slice pa ps.length pc] V)) := Lib.hid (HK8.out.add ((Below.refl _ wr).drew) fun V hV => hlg.below ((Below.refl _ wr).drew.trans hV))
    have hwx : IntKind.i64.wrap x = x := IntWalk.i64_in x (by unfold RuneW at hxw; omega)
    have hji : (j : Int) < (xs.length : Int) := by omega
    have hjl : (j : Int) < (L.length : Int) := by rw [← HXL.out]; exact hji
    have HLX := Lib.hid hLx
    have HXX := Lib.hid hx
    clear hv hLx hgb hx hlg hxw
    go_wp2_with fail
    refine wp_region_held_drew (by kernel_rfl) (S := fun V => V.cell? ⟨gb, go + j, none⟩ = some (.slice ga g.length gc) ∧ V.cell? ⟨rb, ro + j, none⟩ = some (.int .i32 x)) ⟨hcg, hcx⟩ (fun hHeld => ?_)
    refine wpAnyH_take (i := 0) (v := ?_) rfl (by kernel_rfl) (by kernel_rfl) (by kernel_rfl) (fun _ _ _ h => h) (Or.inl ⟨by first | kernel_rfl | rfl, ?_⟩) (by assumption) ?_
    rotate_left
    · intro w hSw; (try dsimp only at hSw); go_simp; (try with_reducible rfl)
    (try simp only [Act.put, List.getElem_toArray, List.getElem_cons_succ, List.getElem_cons_zero, List.setIfInBounds_toArray, List.set_cons_zero, List.set_cons_succ])
    refine wpAnyH_take (i := 1) (v := ?_) rfl (by kernel_rfl) (by kernel_rfl) (by kernel_rfl) (fun _ _ _ h => h) (Or.inl ⟨by first | kernel_rfl | rfl, ?_⟩) (by assumption) ?_
    rotate_left
    · intro w hSw; (try dsimp only at hSw); go_simp; (try with_reducible rfl)
    (try simp only [Act.put, List.getElem_toArray, List.getElem_cons_succ, List.getElem_cons_zero, List.setIfInBounds_toArray, List.set_cons_zero, List.set_cons_succ])
    refine wpAnyH_take (i := 2) (v := ?_) rfl (by kernel_rfl) (by kernel_rfl) (by kernel_rfl) (fun _ _ _ h => h) (Or.inl ⟨by first | kernel_rfl | rfl, ?_⟩) (by assumption) ?_
    rotate_left
    · intro w hSw; (try dsimp only at hSw); go_simp; (try with_reducible rfl)
    (try simp only [Act.put, List.getElem_toArray, List.getElem_cons_succ, List.getElem_cons_zero, List.setIfInBounds_toArray, List.set_cons_zero, List.set_cons_succ])
    refine wpAnyH_take (i := 3) (v := ?_) rfl (by kernel_rfl) (by kernel_rfl) (by kernel_rfl) (fun _ _ _ h => h) (Or.inl ⟨by first | kernel_rfl | rfl, ?_⟩) (by assumption) ?_
    rotate_left
    · intro w hSw; (try dsimp only at hSw); go_simp; (try with_reducible rfl)
    (try simp only [Act.put, List.getElem_toArray, List.getElem_cons_succ, List.getElem_cons_zero, List.setIfInBounds_toArray, List.set_cons_zero, List.set_cons_succ])
    refine wpAnyH_take (i := 4) (v := ?_) rfl (by kernel_rfl) (by kernel_rfl) (by kernel_rfl) (fun _ _ _ h => h) (Or.inl ⟨by first | kernel_rfl | rfl, ?_⟩) (by assumption) ?_
    rotate_left
    · intro w hSw; (try dsimp only at hSw); go_simp; (try with_reducible rfl)
    (try simp only [Act.put, List.getElem_toArray, List.getElem_cons_succ, List.getElem_cons_zero, List.setIfInBounds_toArray, List.set_cons_zero, List.set_cons_succ])
    refine wpAnyH_take (i := 5) (v := ?_) rfl (by kernel_rfl) (by kernel_rfl) (by kernel_rfl) (fun _ _ _ h => h) (Or.inl ⟨by first | kernel_rfl | rfl, ?_⟩) (by assumption) ?_
    rotate_left
    · intro w hSw; (try dsimp only at hSw); go_simp; (try with_reducible rfl)
    (try simp only [Act.put, List.getElem_toArray, List.getElem_cons_succ, List.getElem_cons_zero, List.setIfInBounds_toArray, List.set_cons_zero, List.set_cons_succ])
    refine wpAnyH_take (i := 6) (v := ?_) rfl (by kernel_rfl) (by kernel_rfl) (by kernel_rfl) (fun _ _ _ h => h) (Or.inl ⟨by first | kernel_rfl | rfl, ?_⟩) (by assumption) ?_
    rotate_left
    · intro w hSw; (try dsimp only at hSw); go_simp; (try with_reducible rfl)
    (try simp only [Act.put, List.getElem_toArray, List.getElem_cons_succ, List.getElem_cons_zero, List.setIfInBounds_toArray, List.set_cons_zero, List.set_cons_succ])
    refine wpAnyH_take (i := 7) (v := ?_) rfl (by kernel_rfl) (by kernel_rfl) (by kernel_rfl) (fun _ _ _ h => h) (Or.inl ⟨by first | kernel_rfl | rfl, ?_⟩) (by assumption) ?_
    rotate_left
    · intro w hSw; (try dsimp only at hSw); go_simp; (try with_reducible rfl)
    (try simp only [Act.put, List.getElem_toArray, List.getElem_cons_succ, List.getElem_cons_zero, List.setIfInBounds_toArray, List.set_cons_zero, List.set_cons_succ])
    refine wpAnyH_take (i := 8) (v := ?_) rfl (by kernel_rfl) (by kernel_rfl) (by kernel_rfl) (fun _ _ _ h => h) (Or.inl ⟨by first | kernel_rfl | rfl, ?_⟩) (by assumption) ?_
    rotate_left
    · intro w hSw; (try dsimp only at hSw); go_simp; (try with_reducible rfl)
    (try simp only [Act.put, List.getElem_toArray, List.getElem_cons_succ, List.getElem_cons_zero, List.setIfInBounds_toArray, List.set_cons_zero, List.set_cons_succ])
    refine wpAnyH_ready (rs := [9]) (by kernel_rfl) (by simp) (AllReadyH.cons rfl (fun K hK => ?_) AllReadyH.nil)
    go_simp
    refine (Has_st HKd (fun _ h => h.1) gc x HVV.out).mono ?_
    rintro e w7 ⟨rfl, HK9⟩
    have hb7 := HK9.out.now
    refine hK.out _ _ (⟨(Items.cell (k := j) hb7.2.1.2.1.1 HLX.out).1, (hb7.2.2.1.cellR HXX.out)⟩) (fun hHeld => ?_)
    clear hK K
    (try simp only [Act.put, List.getElem_toArray, List.getElem_cons_succ, List.getElem_cons_zero, List.setIfInBounds_toArray, List.set_cons_zero, List.set_cons_succ])
    refine wpAnyH_take (i := 10) (v := ?_) rfl (by kernel_rfl) (by kernel_rfl) (by kernel_rfl) (fun _ _ _ h => h) (Or.inl ⟨by first | kernel_rfl | rfl, ?_⟩) (by assumption) ?_
    rotate_left
    · intro w hSw; (try dsimp only at hSw); go_simp; (try with_reducible rfl)
    (try simp only [Act.put, List.getElem_toArray, List.getElem_cons_succ, List.getElem_cons_zero, List.setIfInBounds_toArray, List.set_cons_zero, List.set_cons_succ])
    refine wpAnyH_done (by kernel_rfl) ?_ _
    clear hHeld
    have HKA : Hid (St w w7 (fun _ => True)) := Lib.hid (HK9.out.weaken fun _ _ => trivial)
    cases v with
    | false =>
      go_wp2_with fail
      refine (awake12_st HKA).mono ?_
      rintro e w9 ⟨rfl, HK9⟩
      go_wp2_with fail
      go_ret
      exact ⟨rfl, HK9.out.2⟩
    | true =>
      go_wp2_with fail
      exact ⟨⟨j + 1, by omega, by go_num, Lib.hid (HN2.out rfl), Lib.hid (HK9.out.weaken fun _ h => h.2)⟩, by simp [intOf]; omega⟩
  · have hjx : j = xs.length := by omega
    subst hjx
    have hdd2 : decide ((xs.length : Int) < (xs.length : Int)) = false := by simp
    have HIT : Hid (hitM (bodies L) xs) := Lib.hid (by
      rw [hitM_iff, bodies_length]
      exact ⟨HXL.out.symm, fun i g x hg hx => HTH.out i g x (List.getElem?_eq_some_iff.1 hx).1 hg hx⟩)
    clear hlt hj
    have HLL : Hid (L.length ≤ 1048576) := Lib.hid (by omega)
    obtain ⟨r, hr⟩ : ∃ r, boxesR ⟨b, d, t, u, s, ps⟩ (bodies L) gl = r := ⟨_, rfl⟩
    have hbx := Boxes_st HK8 (fun _ h => h.1.1) (fun _ h => h.1.2.1) (fun _ h => h.1.2.2) b d t u s HI.out.1 HI.out.2.2.2.2 pc c cg HLL.out
    rw [hr] at hbx
    have HBX := Lib.hid hbx
    have HR := Lib.hid hr
    obtain ⟨q0, q1, q2, q3, q4, q5⟩ := HK8.out.now.2.2.c6
    clear hbx hr
    go_wp2_with fail
    refine HBX.out.mono ?_
    rintro e w2 ⟨A2, R, c2, rfl, hR, HK3⟩
    clear HBX q0 q1 q2 q3 q4 q5
    have HRR := Lib.hid hR
    clear hR
    obtain ⟨q0, q1, q2, q3, q4, q5⟩ := HK3.out.now.2.2.2.c6
    obtain ⟨r0, hr0⟩ := rep_minus [(-1073741824, 1073741824)] gl
    have HKM : Hid (St w (w2.drew.alloc (.cells #[.int .i64 (-1073741824), .int .i64 1073741824] 52)) (fun V => Lst (some ⟨w2.drew.heap.size, 0, none⟩) [((-1073741824 : Int), (1073741824 : Int))] V ∧ RowsX A2 R V ∧ F12 A L G gl pa ps V ∧ RunesAt B xs V ∧ BoxC w.heap.size [.int .i64 b, .int .i64 d, .int .i64 t, .int .i64 u, .int .i64 s, .slice pa ps.length pc] V)) := Lib.hid ((HK3.out.step ((Below.refl _ w2).drew)).add ((Below.refl _ _).alloc (Nat.le_refl _) _) fun V hV => all_lst _ V 52 ((hV.block _ (by simp)).trans (heap_alloc_new w2.drew _)))
    obtain ⟨r5, hr5⟩ : ∃ r, boxesR ⟨b, d, t, u, s, ps⟩ (bodies L) r0 = r := ⟨_, rfl⟩
    have HR5 := Lib.hid hr5
    have hq := And.intro q0 (And.intro q1 (And.intro q2 (And.intro q3 (And.intro q4 q5))))
    clear hr5
    go_wp2_with fail
    refine wp_region_held_drew (by kernel_rfl) (S := fun V => V.cell? ⟨w.heap.size, 0, none⟩ = some (.int .i64 b) ∧ V.cell? ⟨w.heap.size, 1, none⟩ = some (.int .i64 d) ∧ V.cell? ⟨w.heap.size, 2, none⟩ = some (.int .i64 t) ∧ V.cell? ⟨w.heap.size, 3, none⟩ = some (.int .i64 u) ∧ V.cell? ⟨w.heap.size, 4, none⟩ = some (.int .i64 s) ∧ V.cell? ⟨w.heap.size, 5, none⟩ = some (.slice pa ps.length pc)) hq (fun hHeld => ?_)
    clear q0 q1 q2 q3 q4 q5
    refine wpAnyH_take (i := 0) (v := ?_) rfl (by kernel_rfl) (by kernel_rfl) (by kernel_rfl) (fun _ _ _ h => h) (Or.inl ⟨by first | kernel_rfl | rfl, ?_⟩) (by assumption) ?_
    rotate_left
    · intro w hSw; (try dsimp only at hSw); go_simp; (try with_reducible rfl)
    (try simp only [Act.put, List.getElem_toArray, List.getElem_cons_succ, List.getElem_cons_zero, List.setIfInBounds_toArray, List.set_cons_zero, List.set_cons_succ])
    refine wpAnyH_take (i := 1) (v := ?_) rfl (by kernel_rfl) (by kernel_rfl) (by kernel_rfl) (fun _ _ _ h => h) (Or.inl ⟨by first | kernel_rfl | rfl, ?_⟩) (by assumption) ?_
    rotate_left
    · intro w hSw; (try dsimp only at hSw); go_simp; (try with_reducible rfl)
    (try simp only [Act.put, List.getElem_toArray, List.getElem_cons_succ, List.getElem_cons_zero, List.setIfInBounds_toArray, List.set_cons_zero, List.set_cons_succ])
    refine wpAnyH_take (i := 2) (v := ?_) rfl (by kernel_rfl) (by kernel_rfl) (by kernel_rfl) (fun _ _ _ h => h) (Or.inl ⟨by first | kernel_rfl | rfl, ?_⟩) (by assumption) ?_
    rotate_left
    · intro w hSw; (try dsimp only at hSw); go_simp; (try with_reducible rfl)
    (try simp only [Act.put, List.getElem_toArray, List.getElem_cons_succ, List.getElem_cons_zero, List.setIfInBounds_toArray, List.set_cons_zero, List.set_cons_succ])
    refine wpAnyH_take (i := 4) (v := ?_) rfl (by kernel_rfl) (by kernel_rfl) (by kernel_rfl) (fun _ _ _ h => h) (Or.inl ⟨by first | kernel_rfl | rfl, ?_⟩) (by assumption) ?_
    rotate_left
    · intro w hSw; (try dsimp only at hSw); go_simp; (try with_reducible rfl)
    (try simp only [Act.put, List.getElem_toArray, List.getElem_cons_succ, List.getElem_cons_zero, List.setIfInBounds_toArray, List.set_cons_zero, List.set_cons_succ])
    refine wpAnyH_ready (rs := [3]) (by kernel_rfl) (by simp) (AllReadyH.cons rfl (fun K hK => ?_) AllReadyH.nil)
    go_simp
    refine hK.out _ _ (⟨cellAlloc _ hq.1, cellAlloc _ hq.2.1, cellAlloc _ hq.2.2.1, cellAlloc _ hq.2.2.2.1, cellAlloc _ hq.2.2.2.2.1, cellAlloc _ hq.2.2.2.2.2⟩) (fun hHeld => ?_)
    clear hK K
    (try simp only [Act.put, List.getElem_toArray, List.getElem_cons_succ, List.getElem_cons_zero, List.setIfInBounds_toArray, List.set_cons_zero, List.set_cons_succ])
    refine wpAnyH_ready (rs := [5]) (by kernel_rfl) (by simp) (AllReadyH.cons rfl (fun K hK => ?_) AllReadyH.nil)
    go_simp
    refine (Minus_st HKM (fun _ h => h.1) (fun _ h => h.2.2.1.2.2) 1 cg hr0).mono ?_
    rintro e w4 ⟨A4, c4, rfl, HK4⟩
    have hq4 := HK4.out.now.2.2.2.2.2.c6
    refine hK.out _ _ (hq4) (fun hHeld => ?_)
    clear hK K
    (try simp only [Act.put, List.getElem_toArray, List.getElem_cons_succ, List.getElem_cons_zero, List.setIfInBounds_toArray, List.set_cons_zero, List.set_cons_succ])
    refine wpAnyH_ready (rs := [6]) (by kernel_rfl) (by simp) (AllReadyH.cons rfl (fun K hK => ?_) AllReadyH.nil)
    go_simp
    refine (Boxes_st HK4 (fun _ h => h.2.2.2.1.1) (fun _ h => h.2.2.2.1.2.1) (fun _ h => h.1) b d t u s HI.out.1 HI.out.2.2.2.2 pc c c4 HLL.out).mono ?_
    rw [HR5.out]
    rintro e w5 ⟨A5, R5, c5, rfl, hR5, HK5⟩
    have hq5 := HK5.out.now.2.2.2.2.2.2.c6
    refine hK.out _ _ (hq5) (fun hHeld => ?_)
    clear hK K
    (try simp only [Act.put, List.getElem_toArray, List.getElem_cons_succ, List.getElem_cons_zero, List.setIfInBounds_toArray, List.set_cons_zero, List.set_cons_succ])
    refine wpAnyH_take (i := 7) (v := ?_) rfl (by kernel_rfl) (by kernel_rfl) (by kernel_rfl) (fun _ _ _ h => h) (Or.inl ⟨by first | kernel_rfl | rfl, ?_⟩) (by assumption) ?_
    rotate_left
    · intro w hSw; (try dsimp only at hSw); go_simp; (try with_reducible rfl)
    (try simp only [Act.put, List.getElem_toArray, List.getElem_cons_succ, List.getElem_cons_zero, List.setIfInBounds_toArray, List.set_cons_zero, List.set_cons_succ])
    refine wpAnyH_take (i := 8) (v := ?_) rfl (by kernel_rfl) (by kernel_rfl) (by kernel_rfl) (fun _ _ _ h => h) (Or.inl ⟨by first | kernel_rfl | rfl, ?_⟩) (by assumption) ?_
    rotate_left
    · intro w hSw; (try dsimp only at hSw); go_simp; (try with_reducible rfl)
    (try simp only [Act.put, List.getElem_toArray, List.getElem_cons_succ, List.getElem_cons_zero, List.setIfInBounds_toArray, List.set_cons_zero, List.set_cons_succ])
    refine wpAnyH_take (i := 9) (v := ?_) rfl (by kernel_rfl) (by kernel_rfl) (by kernel_rfl) (fun _ _ _ h => h) (Or.inl ⟨by first | kernel_rfl | rfl, ?_⟩) (by assumption) ?_
    rotate_left
    · intro w hSw; (try dsimp only at hSw); go_simp; (try with_reducible rfl)
    (try simp only [Act.put, List.getElem_toArray, List.getElem_cons_succ, List.getElem_cons_zero, List.setIfInBounds_toArray, List.set_cons_zero, List.set_cons_succ])
    refine wpAnyH_take (i := 10) (v := ?_) rfl (by kernel_rfl) (by kernel_rfl) (by kernel_rfl) (fun _ _ _ h => h) (Or.inl ⟨by first | kernel_rfl | rfl, ?_⟩) (by assumption) ?_
    rotate_left
    · intro w hSw; (try dsimp only at hSw); go_simp; (try with_reducible rfl)
    (try simp only [Act.put, List.getElem_toArray, List.getElem_cons_succ, List.getElem_cons_zero, List.setIfInBounds_toArray, List.set_cons_zero, List.set_cons_succ])
    refine wpAnyH_take (i := 11) (v := ?_) rfl (by kernel_rfl) (by kernel_rfl) (by kernel_rfl) (fun _ _ _ h => h) (Or.inl ⟨by first | kernel_rfl | rfl, ?_⟩) (by assumption) ?_
    rotate_left
    · intro w hSw; (try dsimp only at hSw); go_simp; (try with_reducible rfl)
    (try simp only [Act.put, List.getElem_toArray, List.getElem_cons_succ, List.getElem_cons_zero, List.setIfInBounds_toArray, List.set_cons_zero, List.set_cons_succ])
    refine wpAnyH_done (by kernel_rfl) ?_ _
    clear hHeld hq hq4 hq5
    have HRR5 := Lib.hid hR5
    have HK6 : Hid (St w w5 (fun V => (RowsX A2 R V ∧ RowsX A5 R5 V) ∧ F12 A L G gl pa ps V ∧ RunesAt B xs V ∧ BoxC w.heap.size [.int .i64 b, .int .i64 d, .int .i64 t, .int .i64 u, .int .i64 s, .slice pa ps.length pc] V)) := Lib.hid (HK5.out.weaken fun V h => ⟨⟨h.2.2.2.1, h.1⟩, h.2.2.2.2⟩)
    have HKA : Hid (St w w5 (fun _ => True)) := Lib.hid (HK5.out.weaken fun _ _ => trivial)
    obtain ⟨e1, he1⟩ : ∃ z, r.1 = z := ⟨_, rfl⟩
    obtain ⟨e5, he5⟩ : ∃ z, r5.1 = z := ⟨_, rfl⟩
    have HE1 := Lib.hid he1
    have HE5 := Lib.hid he5
    rw [he1, he5]
    clear hR5 he1 he5 HK3 HK4 HK5 HK8 HKM
    by_cases h0 : e1 = 0
    case neg =>
      have h1 : (e1 != 0) = true := by rw [bne_iff_ne]; exact h0
      have h2 : (e1 == 0) = false := by rw [beq_eq_false_iff_ne]; exact h0
      go_wp2_with fail
      refine (awake12_st HKA).mono ?_
      rintro e w9 ⟨rfl, HK9⟩
      go_wp2_with fail
      go_ret
      exact ⟨rfl, HK9.out.2⟩
    case pos =>
    subst h0
    by_cases h5 : e5 = 0
    case neg =>
      have h1 : (e5 != 0) = true := by rw [bne_iff_ne]; exact h5
      have h2 : (e5 == 0) = false := by rw [beq_eq_false_iff_ne]; exact h5
      go_wp2_with fail
      refine (awake12_st HKA).mono ?_
      rintro e w9 ⟨rfl, HK9⟩
      go_wp2_with fail
      go_ret
      exact ⟨rfl, HK9.out.2⟩
    case pos =>
    subst h5
    obtain ⟨hOK, hS1⟩ := said_of HR.out HE1.out
    obtain ⟨_, hS5⟩ := said_of HR5.out HE5.out
    rw [← HRR.out] at hS1
    rw [← HRR5.out] at hS5
    have hcnt := sides_cnt hOK.2.1.1 hS1 hS5 hr0.out HIT.out
    obtain ⟨ok, hok⟩ : ∃ v, pB (ValOk ⟨b, d, t, u, s, ps⟩ xs) = v := ⟨_, rfl⟩
    obtain ⟨z, hz⟩ : ∃ z, (if ok = true then valN ⟨b, d, t, u, s, ps⟩ xs else 0) = z := ⟨_, rfl⟩
    have HOKV := Lib.hid hok
    have HZ := Lib.hid hz
    have HNU : Hid (NumsOk ⟨b, d, t, u, s, ps⟩) := Lib.hid hOK.2.1
    have HCNT : Hid (cntB (bodies2 R) xs + cntB (bodies2 R5) xs = if ok = true then 1 else 0) := Lib.hid (by
      by_cases h : ValOk ⟨b, d, t, u, s, ps⟩ xs
      · rw [hcnt.1 h, ← hok, pB_true h]; rfl
      · rw [hcnt.2 h, ← hok, pB_false h]; rfl)
    have hRl : R.length ≤ 4096 := by have h := hS1.few; rw [bodies2_length] at h; exact h
    have hRl5 : R5.length ≤ 4096 := by have h := hS5.few; rw [bodies2_length] at h; exact h
    obtain ⟨q0, q1, q2, q3, q4, q5⟩ := HK6.out.now.2.2.2.c6
    clear hcnt hS1 hS5 hok hz hOK HR HR5 HRR HRR5
    go_wp2_with fail
    refine (tVal_st HK6 (fun _ h => h.2.1.1) b d t u s pc (fun _ h => h.2.2.1) cB HNU ok HOKV z HZ).mono ?_
    rintro e w6 ⟨rfl, HK7⟩
    clear q0 q1 q2 q3 q4 q5 HK6 HKA
    go_wp2_with fail
    go_loopw [16, 17] (fun nv iv wr => ∃ (k m : Nat), k ≤ R.length ∧ iv = .int .i64 k ∧ nv = .int .i64 m ∧ m ≤ k ∧ Hid (cntB ((bodies2 R).take k) xs = m) ∧ Hid (St w wr (fun V => (RowsX A2 R V ∧ RowsX A5 R5 V) ∧ F12 A L G gl pa ps V ∧ RunesAt B xs V ∧ BoxC w.heap.size [.int .i64 b, .int .i64 d, .int .i64 t, .int .i64 u, .int .i64 s, .slice pa ps.length pc] V))) (fun _ iv _ => R.length - (intOf iv).toNat)
    case atStart => exact ⟨0, 0, Nat.zero_le _, rfl, rfl, Nat.le_refl _, Lib.hid (cntB_nil xs), HK7⟩
    case round =>
    clear HK7
    obtain ⟨k, m, hk, rfl, rfl, hmk, HCN, HK5⟩ := hrel
    by_cases hlt : k < R.length
    · obtain ⟨rb, ro, ba, bc, bx, rfl, hRi, hbi, hcr, _⟩ := HK5.out.now.1.1.at_ hlt
      obtain ⟨v, hv⟩ : ∃ v, pB (hitM (bodies bx) xs) = v := ⟨_, rfl⟩
      have HVI := Lib.hid hv
      have HRI := Lib.hid hRi
      have HC1 : Hid (cntB ((bodies2 R).take (k + 1)) xs = m + if v = true then 1 else 0) := Lib.hid (by rw [take_snoc? hbi, cntB_snoc _ _ _ v hv, HCN.out])
      clear hv hRi hbi
      cases v with
      | true =>
        go_wp2_with (go_at_call 13; refine (In_st HK5 (fun _ h => (Items.cell h.1.1.1 HRI.out).2) (fun _ h => h.2.2.1) bc cB true HVI).mono ?_; rintro e w6 ⟨rfl, HK6⟩)
        exact ⟨⟨k + 1, m + 1, by omega, by go_num, by go_num, by omega, Lib.hid (by rw [HC1.out]; rfl), HK6⟩, by simp [intOf]; omega⟩
      | false =>
        go_wp2_with (go_at_call 13; refine (In_st HK5 (fun _ h => (Items.cell h.1.1.1 HRI.out).2) (fun _ h => h.2.2.1) bc cB false HVI).mono ?_; rintro e w6 ⟨rfl, HK6⟩)
        exact ⟨⟨k + 1, m, by omega, by go_num, by go_num, by omega, Lib.hid (by rw [HC1.out]; rfl), HK6⟩, by simp [intOf]; omega⟩
    have hkl : k = R.length := by omega
    subst hkl
    have hdd3 : decide ((R.length : Int) < (R.length : Int)) = false := by simp
    have HCN2 : Hid (cntB (bodies2 R) xs = m) := Lib.hid (by have h := HCN.out; rw [List.take_of_length_le (by rw [bodies2_length]; exact Nat.le_refl _)] at h; exact h)
    clear hlt hk
    go_wp2_with fail
    go_loopw [16, 18] (fun nv iv wr => ∃ (k m2 : Nat), k ≤ R5.length ∧ iv = .int .i64 k ∧ nv = .int .i64 m2 ∧ m2 ≤ m + k ∧ Hid (m + cntB ((bodies2 R5).take k) xs = m2) ∧ Hid (St w wr (fun V => (RowsX A2 R V ∧ RowsX A5 R5 V) ∧ F12 A L G gl pa ps V ∧ RunesAt B xs V ∧ BoxC w.heap.size [.int .i64 b, .int .i64 d, .int .i64 t, .int .i64 u, .int .i64 s, .slice pa ps.length pc] V))) (fun _ iv _ => R5.length - (intOf iv).toNat)
    case atStart => exact ⟨0, m, Nat.zero_le _, rfl, rfl, Nat.le_refl _, Lib.hid (by rw [List.take_zero, cntB_nil]; rfl), HK5⟩
    case round =>
    clear HK5
    obtain ⟨k, m2, hk, rfl, rfl, hmk2, HCN5, HK5⟩ := hrel
    by_cases hlt : k < R5.length
    · obtain ⟨rb, ro, ba, bc, bx, rfl, hRi, hbi, hcr, _⟩ := HK5.out.now.1.2.at_ hlt
      obtain ⟨v, hv⟩ : ∃ v, pB (hitM (bodies bx) xs) = v := ⟨_, rfl⟩
      have HVI := Lib.hid hv
      have HRI := Lib.hid hRi
      have HC1 : Hid (m + cntB ((bodies2 R5).take (k + 1)) xs = m2 + if v = true then 1 else 0) := Lib.hid (by rw [take_snoc? hbi, cntB_snoc _ _ _ v hv, ← HCN5.out]; omega)
      clear hv hRi hbi
      cases v with
      | true =>
        go_wp2_with (go_at_call 13; refine (In_st HK5 (fun _ h => (Items.cell h.1.2.1 HRI.out).2) (fun _ h => h.2.2.1) bc cB true HVI).mono ?_; rintro e w6 ⟨rfl, HK6⟩)
        exact ⟨⟨k + 1, m2 + 1, by omega, by go_num, by go_num, by omega, Lib.hid (by rw [HC1.out]; rfl), HK6⟩, by simp [intOf]; omega⟩
      | false =>
        go_wp2_with (go_at_call 13; refine (In_st HK5 (fun _ h => (Items.cell h.1.2.1 HRI.out).2) (fun _ h => h.2.2.1) bc cB false HVI).mono ?_; rintro e w6 ⟨rfl, HK6⟩)
        exact ⟨⟨k + 1, m2, by omega, by go_num, by go_num, by omega, Lib.hid (by rw [HC1.out]; rfl), HK6⟩, by simp [intOf]; omega⟩
    have hkl : k = R5.length := by omega
    subst hkl
    have hdd5 : decide ((R5.length : Int) < (R5.length : Int)) = false := by simp
    have HKA : Hid (St w wr (fun _ => True)) := Lib.hid (HK5.out.weaken fun _ _ => trivial)
    have hm2 : m2 = if ok = true then 1 else 0 := by
      have h := HCN5.out
      rw [List.take_of_length_le (by rw [bodies2_length]; exact Nat.le_refl _), ← HCN2.out] at h
      rw [← h]; exact HCNT.out
    clear hlt hk hmk2
    cases ok with
    | true =>
      obtain rfl : m2 = 1 := hm2
      go_wp2_with fail
      refine (awake12_st HKA).mono ?_
      rintro e w9 ⟨rfl, HK9⟩
      go_wp2_with fail
      go_ret
      exact ⟨rfl, HK9.out.2⟩
    | false =>
      obtain rfl : m2 = 0 := hm2
      go_wp2_with fail
      refine (awake12_st HKA).mono ?_
      rintro e w9 ⟨rfl, HK9⟩
      go_wp2_with fail
      go_ret
      exact ⟨rfl, HK9.out.2⟩
end Go.Proofs.Ytpmhdjiacgckjaa
