/- umlautlaw12.BoxShapes: the walk. Each box has as many places as there are guards, of each a plain list that has something, all of it in the guard; no two boxes have a window in common; with one part at most there is one box at most. Condition: none beyond the row's own. -/
import Derived.Test.YtpmhdjiacgckjaaLawBoxMeets
import Derived.Test.YtpmhdjiacgckjaaLawBoxSides
namespace Go.Proofs.Ytpmhdjiacgckjaa
open Go.RowKit
set_option linter.unusedVariables false
set_option linter.unusedSimpArgs false
theorem boxOf_shape (Q : Nat → List Sp → Prop) : ∀ (L : List Plc) (row : Row) (G : List (List Sp)), (∀ (k : Nat) q s, L[k]? = some q → row[k]? = some s → Q q.1.toNat s) → (∀ (k : Nat) s, G[k]? = some s → Q k s) → ∀ (k : Nat) s, (boxOf G L row)[k]? = some s → Q k s := by
  intro L
  induction L with
  | nil => intro row G _ hG k s h; cases row <;> exact hG k s h
  | cons q L ih =>
    intro row G hr hG k s h
    cases row with
    | nil => exact hG k s h
    | cons a row =>
      refine ih row (G.set q.1.toNat a) (fun k q' s' h1 h2 => hr (k + 1) q' s' (by simpa using h1) (by simpa using h2)) (fun k s hs => ?_) k s h
      by_cases e : q.1.toNat = k
      · subst e
        have hl : q.1.toNat < G.length := by have := (List.getElem?_eq_some_iff.1 hs).1; rwa [List.length_set] at this
        rw [List.getElem?_set_self hl] at hs
        injection hs with hs; subst hs
        exact hr 0 q a rfl rfl
      · rw [List.getElem?_set_ne e] at hs
        exact hG k s hs
theorem cntB_two_le {B : List (List (List Sp))} {w : List Int} {i j : Nat} {x y : List (List Sp)} (hij : i < j) (hi : B[i]? = some x) (hj : B[j]? = some y) (hx : hitM x w) (hy : hitM y w) : 2 ≤ cntB B w := by
  classical
  have hjl := (List.getElem?_eq_some_iff.1 hj).1
  have e : B = B.take j ++ y :: B.drop (j + 1) := by
    conv => lhs; rw [← List.take_append_drop j B]
    congr 1
    rw [List.drop_eq_getElem_cons hjl]
    congr 1
    exact (List.getElem?_eq_some_iff.1 hj).2
  have hm : x ∈ B.take j := List.mem_of_getElem? (i := i) (by rw [List.getElem?_take_of_lt hij]; exact hi)
  unfold cntB
  rw [e, List.filter_append, List.length_append, List.filter_cons, if_pos (by simpa using hy), List.length_cons]
  have h1 : 1 ≤ ((B.take j).filter fun b => decide (hitM b w)).length := List.length_pos_of_mem (List.mem_filter.2 ⟨hm, by simpa using hx⟩)
  have h2 : ((B.take j).filter fun b => @decide (hitM b w) (Classical.propDecidable _)).length = ((B.take j).filter fun b => decide (hitM b w)).length := by congr
  omega
theorem first_hit {L : List (List Sp)} (h : ∀ s ∈ L, Plain s ∧ s ≠ []) : hitM L (L.map fun s => (s.head?.map (·.1)).getD 0) := by
  rw [hitM_iff, List.length_map]
  refine ⟨rfl, fun k s x hs hx => ?_⟩
  rw [List.getElem?_map, hs] at hx
  injection hx with hx
  obtain ⟨hp, hn⟩ := h s (List.mem_of_getElem? hs)
  cases s with
  | nil => exact absurd rfl hn
  | cons p s =>
    rw [← hx]
    refine (hp.mem _).2 ((InS_iff _ _).2 ⟨p, List.mem_cons_self .., Int.le_refl _, hp.2.1⟩)
/-- a box's shape -/
def ShpOk (Gs b : List (List Sp)) : Prop := b.length = Gs.length ∧ ∀ (k : Nat) s g, b[k]? = some s → Gs[k]? = some g → Plain s ∧ s ≠ [] ∧ ∀ x, Mem s x → Mem g x
theorem boxes_shape {T : TermL} {Gs : List (List Sp)} {gl : List Sp} {B : List (List (List Sp))} (h : boxesR T Gs gl = (0, B)) :
    (∀ b ∈ B, ShpOk Gs b) ∧ (∀ (i j : Nat) x y, i < j → B[i]? = some x → B[j]? = some y → ¬ meetOk y x) ∧ (T.parts.length ≤ 1 → B.length ≤ 1) := by
  classical
  obtain ⟨hOk, hS⟩ := said_of h rfl
  have hle : ∀ w, cntB B w ≤ 1 := fun w => by
    by_cases hh : hitM Gs w ∧ ValOk T w ∧ Mem gl (valN T w)
    · rw [(hS.cnt w).1 hh]; exact Nat.le_refl 1
    · rw [(hS.cnt w).2 hh]; omega
  refine ⟨?_, fun i j x y hij hi hj hm => ?_, fun h1 => ?_⟩
  · have h0 := h
    unfold boxesR at h0
    rw [if_neg (fun g => g hOk)] at h0
    by_cases hne : ∃ g ∈ Gs, symG g = []
    · rw [if_pos hne] at h0; injection h0 with _ h0; subst h0
      intro b hb; cases hb
    · rw [if_neg hne] at h0
      have hP := box_pts hOk hne
      rcases hr : (fromL (wantB T.base T.drop T.take T.up T.sum gl) ((plcs T.parts).map (lvOf (Gs.map symG))) 0 0).1 with _ | rows
      · rw [hr] at h0; simp at h0
      · rw [hr] at h0
        simp only at h0
        by_cases hb : 4096 < rows.length
        · rw [if_pos hb] at h0; simp at h0
        · rw [if_neg hb] at h0
          injection h0 with _ h0; subst h0
          have hfr : fromL (wantB T.base T.drop T.take T.up T.sum gl) ((plcs T.parts).map (lvOf (Gs.map symG))) 0 0 = (some rows, (fromL (wantB T.base T.drop T.take T.up T.sum gl) ((plcs T.parts).map (lvOf (Gs.map symG))) 0 0).2) := by rw [← hr]
          have htop := hP.top 0
          rw [List.drop_zero] at htop
          have hT := fromL_tells _ _ _ _ _ _ hfr hP.lvs (fun l hl => by have := topS_mem hP.lvs hl; omega)
          intro b hbm
          obtain ⟨row, hrow, rfl⟩ := List.mem_map.1 hbm
          refine ⟨by rw [boxOf_len, List.length_map], ?_⟩
          have key := boxOf_shape (fun k s => Plain s ∧ s ≠ [] ∧ ∀ g, Gs[k]? = some g → ∀ x, Mem s x → Mem g x) (plcs T.parts) row (Gs.map symG) (fun k q s hq hs => by
            obtain ⟨a1, a2, a3⟩ := (rowOk_at (hT.ok row hrow)).2 k q s hq hs
            refine ⟨a1, a2, fun g hg x hx => ?_⟩
            have a4 := a3 x ((a1.mem x).1 hx)
            have e : (Gs.map symG).getD q.1.toNat [] = symG g := by rw [List.getD_eq_getElem?_getD, List.getElem?_map, hg]; rfl
            rw [e] at a4
            exact (((symG_rep g).2 x).1 a4).1) (fun k s hs => by
            rw [List.getElem?_map] at hs
            rcases hg : Gs[k]? with _ | g
            · rw [hg] at hs; cases hs
            · rw [hg] at hs; injection hs with hs; subst hs
              refine ⟨(symG_rep g).1, fun e => hne ⟨g, List.mem_of_getElem? hg, e⟩, fun g' hg' x hx => ?_⟩
              injection hg' with hg'; subst hg'
              exact ((symG_mem g x).1 hx).1)
          intro k s g hs hg
          obtain ⟨a1, a2, a3⟩ := key k s hs
          exact ⟨a1, a2, a3 g hg⟩
  · have hml := meetL_len hm.1
    have hf := first_hit (L := meetL y x) (fun s hs => ⟨by
      unfold meetL at hs
      rw [List.mem_iff_getElem?] at hs
      obtain ⟨k, hk⟩ := hs
      rw [List.getElem?_zipWith] at hk
      rcases h1 : y[k]? with _ | s1
      · rw [h1] at hk; cases hk
      · rcases h2 : x[k]? with _ | s2
        · rw [h1, h2] at hk; cases hk
        · rw [h1, h2] at hk; injection hk with hk; rw [← hk]; exact (meet_rep s1 s2).1, hm.2 s hs⟩)
    have h2 := (hit_meet hm.1 _).1 hf
    have := cntB_two_le hij hi hj h2.2 h2.1
    have := hle ((meetL y x).map fun s => (s.head?.map (·.1)).getD 0)
    omega
  · obtain ⟨B2, hB2, hl⟩ := boxes_calm (gl := gl) hOk (.inr h1)
    rw [h] at hB2; injection hB2 with _ hB2; rw [hB2]; exact hl h1
set_option maxRecDepth 100000 in
set_option maxHeartbeats 32000000 in
theorem BoxShapes_walk (b d t u s : Int) (pa : Option Addr) (pc : Nat) (ps : List PartL) (A : Option Addr) (n c : Nat) (L : List Lst3) (G : Option Addr) (m cg : Nat) (gl : List Sp) (w : World)
    (hI : I64 b ∧ I64 d ∧ I64 t ∧ I64 u ∧ I64 s) (hP : PartsAt pa ps w) (hs : SssIn w A n L) (hsg : Spans w G m gl) (hwg : SpW gl) (hng : m ≤ 9223372036854775807) :
    Calls Try.prog 6 #[.agg #[.int .i64 b, .int .i64 d, .int .i64 t, .int .i64 u, .int .i64 s, .slice pa ps.length pc], .slice A n c, .slice G m cg] w fun e w' => e = .returned (.bool true) ∧ Below w.heap.size w w' := by
  obtain rfl := hsg.len
  obtain rfl := hs.1.len
  have HK0 : Hid (St w w (fun V => PartsAt pa ps V ∧ SssIn V A L.length L ∧ Spans V G gl.length gl)) := Lib.hid (St.start fun V hV => ⟨hP.below hV, ⟨Items.below hs.1 SpI.lasts hV, hs.2⟩, hsg.below hV⟩)
  have HK := St.box HK0 [.int .i64 b, .int .i64 d, .int .i64 t, .int .i64 u, .int .i64 s, .slice pa ps.length pc] 24
  have hps := hP.ln
  have HWG := Lib.hid hwg
  obtain ⟨q0, q1, q2, q3, q4, q5⟩ := HK.out.now.1.c6
  have HI := Lib.hid hI
  have HG8 := Lib.hid (great12_st HK (fun _ h => h.2.2.1) b d t u s pa ps.length pc hps c G gl.length cg)
  clear hI hP hs hsg hwg hng hps
  go_enter Try.func6, Try.ntmps6
  go_wp2_with fail
  refine HG8.out.mono ?_
  rintro e w1 ⟨v, rfl, HV, HK1⟩
  clear HG8 q0 q1 q2 q3 q4 q5
  have HKA : Hid (St w w1 (fun _ => True)) := Lib.hid (HK1.out.weaken fun _ _ => trivial)
  cases v with
  | true =>
    go_wp2_with fail
    refine (awake12_st HKA).mono ?_
    rintro e w9 ⟨rfl, HK9⟩
    go_wp2_with fail
    go_ret
    exact ⟨rfl, HK9.out.2⟩
  | false =>
  have HVA := Lib.hid (HV.out rfl)
  clear HV
  obtain ⟨hg1, hg2, hg3, hg4⟩ := HVA.out
  have HK2 : Hid (St w w1 (fun V => F12 A L G gl pa ps V ∧ BoxC w.heap.size [.int .i64 b, .int .i64 d, .int .i64 t, .int .i64 u, .int .i64 s, .slice pa ps.length pc] V)) := Lib.hid (HK1.out.weaken fun V h => ⟨⟨h.2.1, ⟨⟨h.2.2.1.1.sl, fun i hi => SpI.lst (h.2.2.1.1.it i hi) (hg4 i hi)⟩, h.2.2.1.2⟩, ⟨h.2.2.2, HWG.out, by omega⟩⟩, h.1⟩)
  clear HK HK0 HK1 hg4 hg2 HKA
  obtain ⟨q0, q1, q2, q3, q4, q5⟩ := HK2.out.now.2.c6
  obtain ⟨r, hr⟩ : ∃ r, boxesR ⟨b, d, t, u, s, ps⟩ (bodies L) gl = r := ⟨_, rfl⟩
  have hbx := Boxes_st HK2 (fun _ h => h.1.1) (fun _ h => h.1.2.1) (fun _ h => h.1.2.2) b d t u s HI.out.1 HI.out.2.2.2.2 pc c cg (by omega)
  rw [hr] at hbx
  have HBX := Lib.hid hbx
  have HR := Lib.hid hr
  clear hbx hr
  go_wp2_with fail
  refine HBX.out.mono ?_
  rintro e w4 ⟨A2, R, c2, rfl, hR, HK5⟩
  clear HBX q0 q1 q2 q3 q4 q5
  have HRR := Lib.hid hR
  clear hR
  have HKA : Hid (St w w4 (fun _ => True)) := Lib.hid (HK5.out.weaken fun _ _ => trivial)
  obtain ⟨e1, he1⟩ : ∃ z, r.1 = z := ⟨_, rfl⟩
  have HE1 := Lib.hid he1
  rw [he1]
  clear he1
  by_cases h0 : e1 = 0
  case neg =>
    have h1 : (e1 != 0) = true := by rw [bne_iff_ne]; exact h0
    have h2 : (e1 == 0) = false := by rw [beq_eq_false_iff_ne]; exact h0
    go_wp2_with fail
    refine (awake12_st HKA).mono ?_
    rintro e w9 ⟨rfl, HK9⟩
    go_wp2_with fail
    go_ret
    exact ⟨rfl, HK9.out.2⟩
  case pos =>
  subst h0
  by_cases hbig : 100 < R.length
  · have hb1 : (R.length : Int) > 100 := by omega
    go_wp2_with fail
    refine (awake12_st HKA).mono ?_
    rintro e w9 ⟨rfl, HK9⟩
    go_wp2_with fail
    go_ret
    exact ⟨rfl, HK9.out.2⟩
  have hb1 : ¬ (R.length : Int) > 100 := by omega
  have HS : Hid ((∀ x ∈ bodies2 R, ShpOk (bodies L) x) ∧ (∀ (i j : Nat) x y, i < j → (bodies2 R)[i]? = some x → (bodies2 R)[j]? = some y → ¬ meetOk y x) ∧ (ps.length ≤ 1 → R.length ≤ 1)) := Lib.hid (by
    have h := boxes_shape (T := ⟨b, d, t, u, s, ps⟩) (Gs := bodies L) (gl := gl) (B := bodies2 R) (by rw [HR.out, HRR.out, ← HE1.out])
    rw [bodies2_length] at h
    exact h)
  have HK6 : Hid (St w w4 (fun V => RowsX A2 R V ∧ F12 A L G gl pa ps V)) := Lib.hid (HK5.out.weaken fun _ h => ⟨h.1, h.2.1⟩)
  have q5 := HK5.out.now.2.2 5 _ rfl
  obtain ⟨p1, hp1⟩ : ∃ v, decide ((ps.length : Int) ≤ 1) = v := ⟨_, rfl⟩
  have hone : p1 = true → ¬ (R.length : Int) > 1 := fun h => by
    rw [h, decide_eq_true_iff] at hp1
    have := HS.out.2.2 (by omega); omega
  have HLN : Hid (L.length ≤ 20) := Lib.hid hg3
  clear HR HRR HE1 HK2 HKA hg1 hg3 hbig HK5
  go_upto_region 6 with fail
  go_cut [42] (fun s wr => s = .bool false ∧ wr = w4)
  case first =>
    cases p1 with
    | true =>
      have hq1 : (ps.length : Int) ≤ 1 := of_decide_eq_true hp1
      have hq2 := hone rfl
      clear hp1 hone
      go_wp2_with fail
      go_meet
      exact ⟨congrArg Value.bool (by rw [decide_eq_false_iff_not]; omega), rfl⟩
    | false =>
      have hq1 : ¬ (ps.length : Int) ≤ 1 := of_decide_eq_false hp1
      clear hp1 hone
      go_wp2_with fail
      go_meet
      exact ⟨rfl, rfl⟩
  case rest =>
  obtain ⟨rfl, rfl⟩ := hcut
  clear hp1 hone
  have hL20 : L.length ≤ 20 := HLN.out
  go_wp2_with fail
  go_loopw [9] (fun iv wr => ∃ i : Nat, i ≤ R.length ∧ iv = .int .i64 i ∧ Hid (St w wr (fun V => RowsX A2 R V ∧ F12 A L G gl pa ps V))) (fun iv _ => R.length - (intOf iv).toNat)
  case atStart => exact ⟨0, Nat.zero_le _, rfl, HK6⟩
  case round =>
  clear HK6
  clear q5
  obtain ⟨i, hi, rfl, HK7⟩ := hrel
  by_cases hiR : i < R.length
  · obtain ⟨rb, ro, ba, bc, bx, hA, hRi, hbi, hcr, _⟩ := HK7.out.now.1.at_ hiR
    subst hA
    have hsh := HS.out.1 _ (List.mem_of_getElem? hbi)
    have HBI := Lib.hid hbi
    have HSH := Lib.hid hsh.2
    have HBLN : Hid (bx.length = L.length) := Lib.hid (by have h := hsh.1; rwa [bodies_length, bodies_length] at h)
    have hne1 : ((bx.length : Int) != (L.length : Int)) = false := by rw [bne_eq_false_iff_eq, HBLN.out]
    have hne2 : ((bx.length : Int) == (L.length : Int)) = true := by rw [beq_iff_eq, HBLN.out]
    have HRI := Lib.hid hRi
    have hiRi : (i : Int) < (R.length : Int) := by omega
    clear hbi hsh hRi
    go_wp2_with fail
    go_loopw [10] (fun iv wr => ∃ k : Nat, k ≤ L.length ∧ iv = .int .i64 k ∧ Hid (St w wr (fun V => RowsX (some ⟨rb, ro, none⟩) R V ∧ F12 A L G gl pa ps V))) (fun iv _ => L.length - (intOf iv).toNat)
    case atStart => exact ⟨0, Nat.zero_le _, rfl, HK7⟩
    case round =>
    clear HK7 hcr hne1 hne2
    obtain ⟨k, hk, rfl, HK8⟩ := hrel
    by_cases hkL : k < L.length
    · have hcr := (Items.cell HK8.out.now.1.1 HRI.out).1
      obtain ⟨sb, so, sa, sc, sl, hba, hSx, hsb, hcs, _⟩ := (Items.cell HK8.out.now.1.1 HRI.out).2.at_ (k := k) (by rw [HBLN.out]; exact hkL)
      obtain ⟨gb, go, ga, gc, g, hA, hLx, hgb, hcg, _⟩ := HK8.out.now.2.2.1.at_ hkL
      subst hba
      subst hA
      obtain ⟨hp, hn, hsub⟩ := HSH.out k sl g hsb hgb
      have hl0 : ((sl.length : Int) == 0) = false := by rw [beq_eq_false_iff_ne]; intro e; exact hn (List.eq_nil_of_length_eq_zero (by omega))
      have hl1 : ¬ sl.length = 0 := fun e => hn (List.eq_nil_of_length_eq_zero e)
      have hl2 : ¬ sl = [] := hn
      have hpl : plainB (-1073741826) sl = true := (plainB_iff _ _).2 hp
      obtain ⟨r9, hr9⟩ := rep_minus sl g
      have hr9n : decide (r9 = []) = true := by
        rw [decide_eq_true_iff]
        exact Rep.unique hr9.out (T := fun _ => False) ⟨trivial, fun x => Iff.rfl⟩ (fun x => ⟨fun h => h.2 (hsub x h.1), fun h => h.elim⟩)
      have HPLB := Lib.hid hpl
      have HR9 := Lib.hid hr9n
      have HSX := Lib.hid hSx
      have HLX := Lib.hid hLx
      have hki : (k : Int) < (L.length : Int) := by omega
      have hkb : (k : Int) < (bx.length : Int) := by rw [HBLN.out]; exact hki
      have HKd : Hid (St w wr.drew (fun V => RowsX (some ⟨rb, ro, none⟩) R V ∧ F12 (some ⟨gb, go, none⟩) L G gl pa ps V)) := Lib.hid (HK8.out.step ((Below.refl _ wr).drew))
      clear hp hn hsub hpl hr9n hSx hsb hLx hgb
      go_wp2_with fail
      refine wp_region_held_drew (by kernel_rfl) (S := fun V => V.cell? ⟨rb, ro + i, none⟩ = some (.slice (some ⟨sb, so, none⟩) bx.length bc) ∧ V.cell? ⟨sb, so + k, none⟩ = some (.slice sa sl.length sc) ∧ V.cell? ⟨gb, go + k, none⟩ = some (.slice ga g.length gc)) ⟨hcr, hcs, hcg⟩ (fun hHeld => ?_)
      refine wpAnyH_take (i := 0) (v := ?_) rfl (by kernel_rfl) (by kernel_rfl) (by kernel_rfl) (fun _ _ _ h => h) (Or.inl ⟨by first | kernel_rfl | rfl, ?_⟩) (by assumption) ?_
      rotate_left
      · intro w hSw; (try dsimp only at hSw); go_simp; (try with_reducible rfl)
      (try simp only [Act.put, List.getElem_toArray, List.getElem_cons_succ, List.getElem_cons_zero, List.setIfInBounds_toArray, List.set_cons_zero, List.set_cons_succ])
      refine wpAnyH_take (i := 1) (v := ?_) rfl (by kernel_rfl) (by kernel_rfl) (by kernel_rfl) (fun _ _ _ h => h) (Or.inl ⟨by first | kernel_rfl | rfl, ?_⟩) (by assumption) ?_
      rotate_left
      · intro w hSw; (try dsimp only at hSw); go_simp; (try with_reducible rfl)
      (try simp only [Act.put, List.getElem_toArray, List.getElem_cons_succ, List.getElem_cons_zero, List.setIfInBounds_toArray, List.set_cons_zero, List.set_cons_succ])
      refine wpAnyH_take (i := 2) (v := ?_) rfl (by kernel_rfl) (by kernel_rfl) (by kernel_rfl) (fun _ _ _ h => h) (Or.inl ⟨by first | kernel_rfl | rfl, ?_⟩) (by assumption) ?_
      rotate_left
      · intro w hSw; (try dsimp only at hSw); go_simp; (try with_reducible rfl)
      (try simp only [Act.put, List.getElem_toArray, List.getElem_cons_succ, List.getElem_cons_zero, List.setIfInBounds_toArray, List.set_cons_zero, List.set_cons_succ])
      refine wpAnyH_take (i := 3) (v := ?_) rfl (by kernel_rfl) (by kernel_rfl) (by kernel_rfl) (fun _ _ _ h => h) (Or.inl ⟨by first | kernel_rfl | rfl, ?_⟩) (by assumption) ?_
      rotate_left
      · intro w hSw; (try dsimp only at hSw); go_simp; (try with_reducible rfl)
      (try simp only [Act.put, List.getElem_toArray, List.getElem_cons_succ, List.getElem_cons_zero, List.setIfInBounds_toArray, List.set_cons_zero, List.set_cons_succ])
      refine wpAnyH_take (i := 4) (v := ?_) rfl (by kernel_rfl) (by kernel_rfl) (by kernel_rfl) (fun _ _ _ h => h) (Or.inl ⟨by first | kernel_rfl | rfl, ?_⟩) (by assumption) ?_
      rotate_left
      · intro w hSw; (try dsimp only at hSw); go_simp; (try with_reducible rfl)
      (try simp only [Act.put, List.getElem_toArray, List.getElem_cons_succ, List.getElem_cons_zero, List.setIfInBounds_toArray, List.set_cons_zero, List.set_cons_succ])
      refine wpAnyH_take (i := 5) (v := ?_) rfl (by kernel_rfl) (by kernel_rfl) (by kernel_rfl) (fun _ _ _ h => h) (Or.inl ⟨by first | kernel_rfl | rfl, ?_⟩) (by assumption) ?_
      rotate_left
      · intro w hSw; (try dsimp only at hSw); go_simp; (try with_reducible rfl)
      (try simp only [Act.put, List.getElem_toArray, List.getElem_cons_succ, List.getElem_cons_zero, List.setIfInBounds_toArray, List.set_cons_zero, List.set_cons_succ])
      refine wpAnyH_take (i := 6) (v := ?_) rfl (by kernel_rfl) (by kernel_rfl) (by kernel_rfl) (fun _ _ _ h => h) (Or.inl ⟨by first | kernel_rfl | rfl, ?_⟩) (by assumption) ?_
      rotate_left
      · intro w hSw; (try dsimp only at hSw); go_simp; (try with_reducible rfl)
      (try simp only [Act.put, List.getElem_toArray, List.getElem_cons_succ, List.getElem_cons_zero, List.setIfInBounds_toArray, List.set_cons_zero, List.set_cons_succ])
      refine wpAnyH_take (i := 7) (v := ?_) rfl (by kernel_rfl) (by kernel_rfl) (by kernel_rfl) (fun _ _ _ h => h) (Or.inl ⟨by first | kernel_rfl | rfl, ?_⟩) (by assumption) ?_
      rotate_left
      · intro w hSw; (try dsimp only at hSw); go_simp; (try with_reducible rfl)
      (try simp only [Act.put, List.getElem_toArray, List.getElem_cons_succ, List.getElem_cons_zero, List.setIfInBounds_toArray, List.set_cons_zero, List.set_cons_succ])
      refine wpAnyH_take (i := 8) (v := ?_) rfl (by kernel_rfl) (by kernel_rfl) (by kernel_rfl) (fun _ _ _ h => h) (Or.inl ⟨by first | kernel_rfl | rfl, ?_⟩) (by assumption) ?_
      rotate_left
      · intro w hSw; (try dsimp only at hSw); go_simp; (try with_reducible rfl)
      (try simp only [Act.put, List.getElem_toArray, List.getElem_cons_succ, List.getElem_cons_zero, List.setIfInBounds_toArray, List.set_cons_zero, List.set_cons_succ])
      refine wpAnyH_take (i := 9) (v := ?_) rfl (by kernel_rfl) (by kernel_rfl) (by kernel_rfl) (fun _ _ _ h => h) (Or.inl ⟨by first | kernel_rfl | rfl, ?_⟩) (by assumption) ?_
      rotate_left
      · intro w hSw; (try dsimp only at hSw); go_simp; (try with_reducible rfl)
      (try simp only [Act.put, List.getElem_toArray, List.getElem_cons_succ, List.getElem_cons_zero, List.setIfInBounds_toArray, List.set_cons_zero, List.set_cons_succ])
      refine wpAnyH_take (i := 10) (v := ?_) rfl (by kernel_rfl) (by kernel_rfl) (by kernel_rfl) (fun _ _ _ h => h) (Or.inl ⟨by first | kernel_rfl | rfl, ?_⟩) (by assumption) ?_
      rotate_left
      · intro w hSw; (try dsimp only at hSw); go_simp; (try with_reducible rfl)
      (try simp only [Act.put, List.getElem_toArray, List.getElem_cons_succ, List.getElem_cons_zero, List.setIfInBounds_toArray, List.set_cons_zero, List.set_cons_succ])
      refine wpAnyH_take (i := 11) (v := ?_) rfl (by kernel_rfl) (by kernel_rfl) (by kernel_rfl) (fun _ _ _ h => h) (Or.inl ⟨by first | kernel_rfl | rfl, ?_⟩) (by assumption) ?_
      rotate_left
      · intro w hSw; (try dsimp only at hSw); go_simp; (try with_reducible rfl)
      (try simp only [Act.put, List.getElem_toArray, List.getElem_cons_succ, List.getElem_cons_zero, List.setIfInBounds_toArray, List.set_cons_zero, List.set_cons_succ])
      refine wpAnyH_take (i := 12) (v := ?_) rfl (by kernel_rfl) (by kernel_rfl) (by kernel_rfl) (fun _ _ _ h => h) (Or.inl ⟨by first | kernel_rfl | rfl, ?_⟩) (by assumption) ?_
      rotate_left
      · intro w hSw; (try dsimp only at hSw); go_simp; (try with_reducible rfl)
      (try simp only [Act.put, List.getElem_toArray, List.getElem_cons_succ, List.getElem_cons_zero, List.setIfInBounds_toArray, List.set_cons_zero, List.set_cons_succ])
      refine wpAnyH_take (i := 13) (v := ?_) rfl (by kernel_rfl) (by kernel_rfl) (by kernel_rfl) (fun _ _ _ h => h) (Or.inl ⟨by first | kernel_rfl | rfl, ?_⟩) (by assumption) ?_
      rotate_left
      · intro w hSw; (try dsimp only at hSw); go_simp; (try with_reducible rfl)
      (try simp only [Act.put, List.getElem_toArray, List.getElem_cons_succ, List.getElem_cons_zero, List.setIfInBounds_toArray, List.set_cons_zero, List.set_cons_succ])
      refine wpAnyH_take (i := 14) (v := ?_) rfl (by kernel_rfl) (by kernel_rfl) (by kernel_rfl) (fun _ _ _ h => h) (Or.inl ⟨by first | kernel_rfl | rfl, ?_⟩) (by assumption) ?_
      rotate_left
      · intro w hSw; (try dsimp only at hSw); go_simp; (try with_reducible rfl)
      (try simp only [Act.put, List.getElem_toArray, List.getElem_cons_succ, List.getElem_cons_zero, List.setIfInBounds_toArray, List.set_cons_zero, List.set_cons_succ])
      refine wpAnyH_take (i := 15) (v := ?_) rfl (by kernel_rfl) (by kernel_rfl) (by kernel_rfl) (fun _ _ _ h => h) (Or.inl ⟨by first | kernel_rfl | rfl, ?_⟩) (by assumption) ?_
      rotate_left
      · intro w hSw; (try dsimp only at hSw); go_simp; (try with_reducible rfl)
      (try simp only [Act.put, List.getElem_toArray, List.getElem_cons_succ, List.getElem_cons_zero, List.setIfInBounds_toArray, List.set_cons_zero, List.set_cons_succ])
      refine wpAnyH_take (i := 16) (v := ?_) rfl (by kernel_rfl) (by kernel_rfl) (by kernel_rfl) (fun _ _ _ h => h) (Or.inl ⟨by first | kernel_rfl | rfl, ?_⟩) (by assumption) ?_
      rotate_left
      · intro w hSw; (try dsimp only at hSw); go_simp; (try with_reducible rfl)
      (try simp only [Act.put, List.getElem_toArray, List.getElem_cons_succ, List.getElem_cons_zero, List.setIfInBounds_toArray, List.set_cons_zero, List.set_cons_succ])
      refine wpAnyH_ready (rs := [17]) (by kernel_rfl) (by simp) (AllReadyH.cons rfl (fun K hK => ?_) AllReadyH.nil)
      go_simp
      refine (Check_st HKd (fun _ h => (Items.cell (Items.cell h.1.1 HRI.out).2.1 HSX.out).2) sc HPLB.out).mono ?_
      rintro e w7 ⟨rfl, HK9⟩
      have hb7 := HK9.out.now
      refine hK.out _ _ (⟨(Items.cell hb7.1.1 HRI.out).1, (Items.cell (Items.cell hb7.1.1 HRI.out).2.1 HSX.out).1, (Items.cell hb7.2.2.1.1 HLX.out).1⟩) (fun hHeld => ?_)
      clear hK K
      (try simp only [Act.put, List.getElem_toArray, List.getElem_cons_succ, List.getElem_cons_zero, List.setIfInBounds_toArray, List.set_cons_zero, List.set_cons_succ])
      refine wpAnyH_take (i := 18) (v := ?_) rfl (by kernel_rfl) (by kernel_rfl) (by kernel_rfl) (fun _ _ _ h => h) (Or.inl ⟨by first | kernel_rfl | rfl, ?_⟩) (by assumption) ?_
      rotate_left
      · intro w hSw; (try dsimp only at hSw); go_simp; (try with_reducible rfl)
      (try simp only [Act.put, List.getElem_toArray, List.getElem_cons_succ, List.getElem_cons_zero, List.setIfInBounds_toArray, List.set_cons_zero, List.set_cons_succ])
      refine wpAnyH_take (i := 19) (v := ?_) rfl (by kernel_rfl) (by kernel_rfl) (by kernel_rfl) (fun _ _ _ h => h) (Or.inl ⟨by first | kernel_rfl | rfl, ?_⟩) (by assumption) ?_
      rotate_left
      · intro w hSw; (try dsimp only at hSw); go_simp; (try with_reducible rfl)
      (try simp only [Act.put, List.getElem_toArray, List.getElem_cons_succ, List.getElem_cons_zero, List.setIfInBounds_toArray, List.set_cons_zero, List.set_cons_succ])
      refine wpAnyH_take (i := 20) (v := ?_) rfl (by kernel_rfl) (by kernel_rfl) (by kernel_rfl) (fun _ _ _ h => h) (Or.inl ⟨by first | kernel_rfl | rfl, ?_⟩) (by assumption) ?_
      rotate_left
      · intro w hSw; (try dsimp only at hSw); go_simp; (try with_reducible rfl)
      (try simp only [Act.put, List.getElem_toArray, List.getElem_cons_succ, List.getElem_cons_zero, List.setIfInBounds_toArray, List.set_cons_zero, List.set_cons_succ])
      refine wpAnyH_take (i := 21) (v := ?_) rfl (by kernel_rfl) (by kernel_rfl) (by kernel_rfl) (fun _ _ _ h => h) (Or.inl ⟨by first | kernel_rfl | rfl, ?_⟩) (by assumption) ?_
      rotate_left
      · intro w hSw; (try dsimp only at hSw); go_simp; (try with_reducible rfl)
      (try simp only [Act.put, List.getElem_toArray, List.getElem_cons_succ, List.getElem_cons_zero, List.setIfInBounds_toArray, List.set_cons_zero, List.set_cons_succ])
      refine wpAnyH_take (i := 22) (v := ?_) rfl (by kernel_rfl) (by kernel_rfl) (by kernel_rfl) (fun _ _ _ h => h) (Or.inl ⟨by first | kernel_rfl | rfl, ?_⟩) (by assumption) ?_
      rotate_left
      · intro w hSw; (try dsimp only at hSw); go_simp; (try with_reducible rfl)
      (try simp only [Act.put, List.getElem_toArray, List.getElem_cons_succ, List.getElem_cons_zero, List.setIfInBounds_toArray, List.set_cons_zero, List.set_cons_succ])
      refine wpAnyH_take (i := 23) (v := ?_) rfl (by kernel_rfl) (by kernel_rfl) (by kernel_rfl) (fun _ _ _ h => h) (Or.inl ⟨by first | kernel_rfl | rfl, ?_⟩) (by assumption) ?_
      rotate_left
      · intro w hSw; (try dsimp only at hSw); go_simp; (try with_reducible rfl)
      (try simp only [Act.put, List.getElem_toArray, List.getElem_cons_succ, List.getElem_cons_zero, List.setIfInBounds_toArray, List.set_cons_zero, List.set_cons_succ])
      refine wpAnyH_take (i := 24) (v := ?_) rfl (by kernel_rfl) (by kernel_rfl) (by kernel_rfl) (fun _ _ _ h => h) (Or.inl ⟨by first | kernel_rfl | rfl, ?_⟩) (by assumption) ?_
      rotate_left
      · intro w hSw; (try dsimp only at hSw); go_simp; (try with_reducible rfl)
      (try simp only [Act.put, List.getElem_toArray, List.getElem_cons_succ, List.getElem_cons_zero, List.setIfInBounds_toArray, List.set_cons_zero, List.set_cons_succ])
      refine wpAnyH_take (i := 25) (v := ?_) rfl (by kernel_rfl) (by kernel_rfl) (by kernel_rfl) (fun _ _ _ h => h) (Or.inl ⟨by first | kernel_rfl | rfl, ?_⟩) (by assumption) ?_
      rotate_left
      · intro w hSw; (try dsimp only at hSw); go_simp; (try with_reducible rfl)
      (try simp only [Act.put, List.getElem_toArray, List.getElem_cons_succ, List.getElem_cons_zero, List.setIfInBounds_toArray, List.set_cons_zero, List.set_cons_succ])
      refine wpAnyH_take (i := 26) (v := ?_) rfl (by kernel_rfl) (by kernel_rfl) (by kernel_rfl) (fun _ _ _ h => h) (Or.inl ⟨by first | kernel_rfl | rfl, ?_⟩) (by assumption) ?_
      rotate_left
      · intro w hSw; (try dsimp only at hSw); go_simp; (try with_reducible rfl)
      (try simp only [Act.put, List.getElem_toArray, List.getElem_cons_succ, List.getElem_cons_zero, List.setIfInBounds_toArray, List.set_cons_zero, List.set_cons_succ])
      refine wpAnyH_take (i := 27) (v := ?_) rfl (by kernel_rfl) (by kernel_rfl) (by kernel_rfl) (fun _ _ _ h => h) (Or.inl ⟨by first | kernel_rfl | rfl, ?_⟩) (by assumption) ?_
      rotate_left
      · intro w hSw; (try dsimp only at hSw); go_simp; (try with_reducible rfl)
      (try simp only [Act.put, List.getElem_toArray, List.getElem_cons_succ, List.getElem_cons_zero, List.setIfInBounds_toArray, List.set_cons_zero, List.set_cons_succ])
      refine wpAnyH_take (i := 28) (v := ?_) rfl (by kernel_rfl) (by kernel_rfl) (by kernel_rfl) (fun _ _ _ h => h) (Or.inl ⟨by first | kernel_rfl | rfl, ?_⟩) (by assumption) ?_
      rotate_left
      · intro w hSw; (try dsimp only at hSw); go_simp; (try with_reducible rfl)
      (try simp only [Act.put, List.getElem_toArray, List.getElem_cons_succ, List.getElem_cons_zero, List.setIfInBounds_toArray, List.set_cons_zero, List.set_cons_succ])
      refine wpAnyH_take (i := 29) (v := ?_) rfl (by kernel_rfl) (by kernel_rfl) (by kernel_rfl) (fun _ _ _ h => h) (Or.inl ⟨by first | kernel_rfl | rfl, ?_⟩) (by assumption) ?_
      rotate_left
      · intro w hSw; (try dsimp only at hSw); go_simp; (try with_reducible rfl)
      (try simp only [Act.put, List.getElem_toArray, List.getElem_cons_succ, List.getElem_cons_zero, List.setIfInBounds_toArray, List.set_cons_zero, List.set_cons_succ])
      refine wpAnyH_take (i := 30) (v := ?_) rfl (by kernel_rfl) (by kernel_rfl) (by kernel_rfl) (fun _ _ _ h => h) (Or.inl ⟨by first | kernel_rfl | rfl, ?_⟩) (by assumption) ?_
      rotate_left
      · intro w hSw; (try dsimp only at hSw); go_simp; (try with_reducible rfl)
      (try simp only [Act.put, List.getElem_toArray, List.getElem_cons_succ, List.getElem_cons_zero, List.setIfInBounds_toArray, List.set_cons_zero, List.set_cons_succ])
      refine wpAnyH_take (i := 31) (v := ?_) rfl (by kernel_rfl) (by kernel_rfl) (by kernel_rfl) (fun _ _ _ h => h) (Or.inl ⟨by first | kernel_rfl | rfl, ?_⟩) (by assumption) ?_
      rotate_left
      · intro w hSw; (try dsimp only at hSw); go_simp; (try with_reducible rfl)
      (try simp only [Act.put, List.getElem_toArray, List.getElem_cons_succ, List.getElem_cons_zero, List.setIfInBounds_toArray, List.set_cons_zero, List.set_cons_succ])
      refine wpAnyH_ready (rs := [32]) (by kernel_rfl) (by simp) (AllReadyH.cons rfl (fun K hK => ?_) AllReadyH.nil)
      go_simp
      refine (Within_st HK9 (fun _ h => (Items.cell (Items.cell h.1.1 HRI.out).2.1 HSX.out).2) (fun _ h => (Items.cell h.2.2.1.1 HLX.out).2) sc gc hr9 HR9.out).mono ?_
      rintro e w8 ⟨rfl, HK10⟩
      have hb8 := HK10.out.now
      refine hK.out _ _ (⟨(Items.cell hb8.1.1 HRI.out).1, (Items.cell (Items.cell hb8.1.1 HRI.out).2.1 HSX.out).1, (Items.cell hb8.2.2.1.1 HLX.out).1⟩) (fun hHeld => ?_)
      clear hK K
      (try simp only [Act.put, List.getElem_toArray, List.getElem_cons_succ, List.getElem_cons_zero, List.setIfInBounds_toArray, List.set_cons_zero, List.set_cons_succ])
      refine wpAnyH_take (i := 33) (v := ?_) rfl (by kernel_rfl) (by kernel_rfl) (by kernel_rfl) (fun _ _ _ h => h) (Or.inl ⟨by first | kernel_rfl | rfl, ?_⟩) (by assumption) ?_
      rotate_left
      · intro w hSw; (try dsimp only at hSw); go_simp; (try with_reducible rfl)
      (try simp only [Act.put, List.getElem_toArray, List.getElem_cons_succ, List.getElem_cons_zero, List.setIfInBounds_toArray, List.set_cons_zero, List.set_cons_succ])
      refine wpAnyH_take (i := 34) (v := ?_) rfl (by kernel_rfl) (by kernel_rfl) (by kernel_rfl) (fun _ _ _ h => h) (Or.inl ⟨by first | kernel_rfl | rfl, ?_⟩) (by assumption) ?_
      rotate_left
      · intro w hSw; (try dsimp only at hSw); go_simp; (try with_reducible rfl)
      (try simp only [Act.put, List.getElem_toArray, List.getElem_cons_succ, List.getElem_cons_zero, List.setIfInBounds_toArray, List.set_cons_zero, List.set_cons_succ])
      refine wpAnyH_done (by kernel_rfl) ?_ _
      clear hHeld
      go_wp2_with fail
      exact ⟨⟨k + 1, by omega, by go_num, HK10⟩, by simp [intOf]; omega⟩
    · have hkl : k = L.length := by omega
      subst hkl
      have hdd : decide ((L.length : Int) < (L.length : Int)) = false := by simp
      go_wp2_with fail
      go_loopw [11] (fun iv wr => ∃ j : Nat, j ≤ i ∧ iv = .int .i64 j ∧ Hid (St w wr (fun V => RowsX (some ⟨rb, ro, none⟩) R V ∧ F12 A L G gl pa ps V))) (fun iv _ => i - (intOf iv).toNat)
      case atStart => exact ⟨0, Nat.zero_le _, rfl, HK8⟩
      case round =>
      clear HK8 hkL hk
      obtain ⟨j, hj, rfl, HK11⟩ := hrel
      by_cases hji : j < i
      · obtain ⟨rb2, ro2, ca, cc, cx, hA2, hRj, hbj, hcj, _⟩ := HK11.out.now.1.at_ (k := j) (by omega)
        injection hA2 with hA2; injection hA2 with g1 g2
        subst g1; subst g2
        have hcr := (Items.cell HK11.out.now.1.1 HRI.out).1
        have HNM : Hid (¬ meetOk (bodies bx) (bodies cx)) := Lib.hid (HS.out.2.1 j i _ _ hji hbj HBI.out)
        have HRJ := Lib.hid hRj
        have hjii : (j : Int) < (i : Int) := by omega
        have hjR : (j : Int) < (R.length : Int) := by omega
        have HKd : Hid (St w wr.drew (fun V => RowsX (some ⟨rb, ro, none⟩) R V ∧ F12 A L G gl pa ps V)) := Lib.hid (HK11.out.step ((Below.refl _ wr).drew))
        clear hRj hbj
        go_wp2_with fail
        refine wp_region_held_drew (by kernel_rfl) (S := fun V => V.cell? ⟨rb, ro + i, none⟩ = some (.slice ba bx.length bc) ∧ V.cell? ⟨rb, ro + j, none⟩ = some (.slice ca cx.length cc)) ⟨hcr, hcj⟩ (fun hHeld => ?_)
        refine wpAnyH_take (i := 0) (v := ?_) rfl (by kernel_rfl) (by kernel_rfl) (by kernel_rfl) (fun _ _ _ h => h) (Or.inl ⟨by first | kernel_rfl | rfl, ?_⟩) (by assumption) ?_
        rotate_left
        · intro w hSw; (try dsimp only at hSw); go_simp; (try with_reducible rfl)
        (try simp only [Act.put, List.getElem_toArray, List.getElem_cons_succ, List.getElem_cons_zero, List.setIfInBounds_toArray, List.set_cons_zero, List.set_cons_succ])
        refine wpAnyH_take (i := 1) (v := ?_) rfl (by kernel_rfl) (by kernel_rfl) (by kernel_rfl) (fun _ _ _ h => h) (Or.inl ⟨by first | kernel_rfl | rfl, ?_⟩) (by assumption) ?_
        rotate_left
        · intro w hSw; (try dsimp only at hSw); go_simp; (try with_reducible rfl)
        (try simp only [Act.put, List.getElem_toArray, List.getElem_cons_succ, List.getElem_cons_zero, List.setIfInBounds_toArray, List.set_cons_zero, List.set_cons_succ])
        refine wpAnyH_take (i := 2) (v := ?_) rfl (by kernel_rfl) (by kernel_rfl) (by kernel_rfl) (fun _ _ _ h => h) (Or.inl ⟨by first | kernel_rfl | rfl, ?_⟩) (by assumption) ?_
        rotate_left
        · intro w hSw; (try dsimp only at hSw); go_simp; (try with_reducible rfl)
        (try simp only [Act.put, List.getElem_toArray, List.getElem_cons_succ, List.getElem_cons_zero, List.setIfInBounds_toArray, List.set_cons_zero, List.set_cons_succ])
        refine wpAnyH_take (i := 3) (v := ?_) rfl (by kernel_rfl) (by kernel_rfl) (by kernel_rfl) (fun _ _ _ h => h) (Or.inl ⟨by first | kernel_rfl | rfl, ?_⟩) (by assumption) ?_
        rotate_left
        · intro w hSw; (try dsimp only at hSw); go_simp; (try with_reducible rfl)
        (try simp only [Act.put, List.getElem_toArray, List.getElem_cons_succ, List.getElem_cons_zero, List.setIfInBounds_toArray, List.set_cons_zero, List.set_cons_succ])
        refine wpAnyH_take (i := 4) (v := ?_) rfl (by kernel_rfl) (by kernel_rfl) (by kernel_rfl) (fun _ _ _ h => h) (Or.inl ⟨by first | kernel_rfl | rfl, ?_⟩) (by assumption) ?_
        rotate_left
        · intro w hSw; (try dsimp only at hSw); go_simp; (try with_reducible rfl)
        (try simp only [Act.put, List.getElem_toArray, List.getElem_cons_succ, List.getElem_cons_zero, List.setIfInBounds_toArray, List.set_cons_zero, List.set_cons_succ])
        refine wpAnyH_take (i := 5) (v := ?_) rfl (by kernel_rfl) (by kernel_rfl) (by kernel_rfl) (fun _ _ _ h => h) (Or.inl ⟨by first | kernel_rfl | rfl, ?_⟩) (by assumption) ?_
        rotate_left
        · intro w hSw; (try dsimp only at hSw); go_simp; (try with_reducible rfl)
        (try simp only [Act.put, List.getElem_toArray, List.getElem_cons_succ, List.getElem_cons_zero, List.setIfInBounds_toArray, List.set_cons_zero, List.set_cons_succ])
        refine wpAnyH_take (i := 6) (v := ?_) rfl (by kernel_rfl) (by kernel_rfl) (by kernel_rfl) (fun _ _ _ h => h) (Or.inl ⟨by first | kernel_rfl | rfl, ?_⟩) (by assumption) ?_
        rotate_left
        · intro w hSw; (try dsimp only at hSw); go_simp; (try with_reducible rfl)
        (try simp only [Act.put, List.getElem_toArray, List.getElem_cons_succ, List.getElem_cons_zero, List.setIfInBounds_toArray, List.set_cons_zero, List.set_cons_succ])
        refine wpAnyH_take (i := 7) (v := ?_) rfl (by kernel_rfl) (by kernel_rfl) (by kernel_rfl) (fun _ _ _ h => h) (Or.inl ⟨by first | kernel_rfl | rfl, ?_⟩) (by assumption) ?_
        rotate_left
        · intro w hSw; (try dsimp only at hSw); go_simp; (try with_reducible rfl)
        (try simp only [Act.put, List.getElem_toArray, List.getElem_cons_succ, List.getElem_cons_zero, List.setIfInBounds_toArray, List.set_cons_zero, List.set_cons_succ])
        refine wpAnyH_ready (rs := [8]) (by kernel_rfl) (by simp) (AllReadyH.cons rfl (fun K hK => ?_) AllReadyH.nil)
        go_simp
        refine (BMeet_st HKd (fun _ h => (Items.cell h.1.1 HRI.out).2) (fun _ h => (Items.cell h.1.1 HRJ.out).2) bc cc (by rw [HBLN.out]; have := HLN.out; omega)).mono ?_
        rintro e w7 (⟨_, rfl, HK9⟩ | ⟨hbad, _⟩)
        case inr => exact absurd hbad HNM.out
        have hb7 := HK9.out.now
        refine hK.out _ _ (⟨(Items.cell hb7.1.1 HRI.out).1, (Items.cell hb7.1.1 HRJ.out).1⟩) (fun hHeld => ?_)
        clear hK K
        (try simp only [Act.put, List.getElem_toArray, List.getElem_cons_succ, List.getElem_cons_zero, List.setIfInBounds_toArray, List.set_cons_zero, List.set_cons_succ])
        refine wpAnyH_take (i := 9) (v := ?_) rfl (by kernel_rfl) (by kernel_rfl) (by kernel_rfl) (fun _ _ _ h => h) (Or.inl ⟨by first | kernel_rfl | rfl, ?_⟩) (by assumption) ?_
        rotate_left
        · intro w hSw; (try dsimp only at hSw); go_simp; (try with_reducible rfl)
        (try simp only [Act.put, List.getElem_toArray, List.getElem_cons_succ, List.getElem_cons_zero, List.setIfInBounds_toArray, List.set_cons_zero, List.set_cons_succ])
        refine wpAnyH_take (i := 10) (v := ?_) rfl (by kernel_rfl) (by kernel_rfl) (by kernel_rfl) (fun _ _ _ h => h) (Or.inl ⟨by first | kernel_rfl | rfl, ?_⟩) (by assumption) ?_
        rotate_left
        · intro w hSw; (try dsimp only at hSw); go_simp; (try with_reducible rfl)
        (try simp only [Act.put, List.getElem_toArray, List.getElem_cons_succ, List.getElem_cons_zero, List.setIfInBounds_toArray, List.set_cons_zero, List.set_cons_succ])
        refine wpAnyH_take (i := 11) (v := ?_) rfl (by kernel_rfl) (by kernel_rfl) (by kernel_rfl) (fun _ _ _ h => h) (Or.inl ⟨by first | kernel_rfl | rfl, ?_⟩) (by assumption) ?_
        rotate_left
        · intro w hSw; (try dsimp only at hSw); go_simp; (try with_reducible rfl)
        (try simp only [Act.put, List.getElem_toArray, List.getElem_cons_succ, List.getElem_cons_zero, List.setIfInBounds_toArray, List.set_cons_zero, List.set_cons_succ])
        refine wpAnyH_take (i := 12) (v := ?_) rfl (by kernel_rfl) (by kernel_rfl) (by kernel_rfl) (fun _ _ _ h => h) (Or.inl ⟨by first | kernel_rfl | rfl, ?_⟩) (by assumption) ?_
        rotate_left
        · intro w hSw; (try dsimp only at hSw); go_simp; (try with_reducible rfl)
        (try simp only [Act.put, List.getElem_toArray, List.getElem_cons_succ, List.getElem_cons_zero, List.setIfInBounds_toArray, List.set_cons_zero, List.set_cons_succ])
        refine wpAnyH_take (i := 13) (v := ?_) rfl (by kernel_rfl) (by kernel_rfl) (by kernel_rfl) (fun _ _ _ h => h) (Or.inl ⟨by first | kernel_rfl | rfl, ?_⟩) (by assumption) ?_
        rotate_left
        · intro w hSw; (try dsimp only at hSw); go_simp; (try with_reducible rfl)
        (try simp only [Act.put, List.getElem_toArray, List.getElem_cons_succ, List.getElem_cons_zero, List.setIfInBounds_toArray, List.set_cons_zero, List.set_cons_succ])
        refine wpAnyH_done (by kernel_rfl) ?_ _
        clear hHeld
        go_wp2_with fail
        exact ⟨⟨j + 1, by omega, by go_num, HK9⟩, by simp [intOf]; omega⟩
      · have hjl : j = i := by omega
        subst hjl
        have hdd3 : decide ((j : Int) < (j : Int)) = false := by simp
        go_wp2_with fail
        exact ⟨⟨j + 1, by omega, by go_num, HK11⟩, by simp [intOf]; omega⟩
  · have hil : i = R.length := by omega
    subst hil
    have hdd0 : decide ((R.length : Int) < (R.length : Int)) = false := by simp
    have HKA : Hid (St w wr (fun _ => True)) := Lib.hid (HK7.out.weaken fun _ _ => trivial)
    go_wp2_with fail
    refine (awake12_st HKA).mono ?_
    rintro e w9 ⟨rfl, HK9⟩
    go_wp2_with fail
    go_ret
    exact ⟨rfl, HK9.out.2⟩
end Go.Proofs.Ytpmhdjiacgckjaa
