/- Contract of part.taken: the numbers of some bits that are in a set when they are moved up. Condition: the bits are right, the list at hand is known. -/
import Derived.Test.YtdaagdohhnhbdaaImage
namespace Go.Proofs.Ytdaagdohhnhbdaa
open Go.RowKit Go.Shelf
set_option linter.unusedVariables false
set_option linter.unusedSimpArgs false
attribute [local go_sem] Oper.semAt_some

theorem mem_span {a b x : Int} (ha : -1073741824 ≤ a) (hb : b ≤ 1073741824) : Mem [(a, b)] x ↔ (a ≤ x ∧ x ≤ b) := by
  simp only [Mem, InS, or_false]; omega
theorem plain_one {a b : Int} (h : a ≤ b) (ha : -1073741824 ≤ a) (hb : b ≤ 1073741824) : Plain [(a, b)] := ⟨by simp only; omega, h, hb, trivial⟩
theorem shlV_eq {u y : Int} (h0 : 0 ≤ y) (h1 : y ≤ 4398046511104) (u0 : 0 ≤ u) (u1 : u ≤ 20) : shlV u y = y * pw u := by
  have h2 : pw u ≤ 1048576 := pw_mono (n := 20) u0 u1
  have h3 := pw_pos u
  have h4 : y * pw u ≤ 4398046511104 * 1048576 := Int.mul_le_mul h1 h2 (by omega) (by omega)
  have h5 : 0 ≤ y * pw u := Int.mul_nonneg h0 (by omega)
  exact IntWalk.i64_in _ (by show _ ∧ _; unfold pw at h4 h5; omega)

section
variable {w0 w : World} {F : World → Prop} {G : Option Addr} {g0 r : List Sp}
set_option maxRecDepth 100000 in
set_option maxHeartbeats 16000000 in
theorem taken_st (hK : Hid (St w0 w F)) (hg : ∀ W, F W → Lst G g0 W) (c : Nat) (a d t u : Int) (hb : Hid (bitsB d t u = true)) (hr : Hid (Rep r (TkS t u g0))) :
    Calls Try.prog 69 #[.agg #[.int .i64 a, .int .i64 d, .int .i64 t, .int .i64 u], .slice G g0.length c] w (RetL w0 r F) := by
  have HK0 := St.pbox hK a d t u
  have HKb : Hid (St w0 ((w.alloc (.cells #[.int .i64 a, .int .i64 d, .int .i64 t, .int .i64 u] 23)).alloc (.cells #[.slice G g0.length c] 24)) (fun W => W.cell? ⟨w.heap.size + 1, 0, none⟩ = some (.slice G g0.length c) ∧ PBox w.heap.size a d t u W ∧ F W)) := by
    refine Lib.hid (HK0.out.add ((Below.refl _ _).alloc (Nat.le_refl _) _) (fun W hW => ?_))
    have hb := heap_alloc_new (w.alloc (.cells #[.int .i64 a, .int .i64 d, .int .i64 t, .int .i64 u] 23)) (.cells #[.slice G g0.length c] 24)
    rw [show (w.alloc (.cells #[.int .i64 a, .int .i64 d, .int .i64 t, .int .i64 u] 23)).heap.size = w.heap.size + 1 by simp] at hb
    rw [hW.cell (p := ⟨w.heap.size + 1, 0, none⟩) (by simp)]
    simp only [World.cell?, hb]; rfl
  obtain ⟨b1, b2, b3, b4, b5, b6, b7⟩ := (bitsB_iff _ _ _).1 hb.out
  have HB7 := Lib.hid b7
  obtain ⟨T, hT⟩ : ∃ T, (2 : Int) ^ t.toNat = T := ⟨_, rfl⟩
  have HT : Hid (pw t = T) := Lib.hid hT
  have hT1 : 1 ≤ T ∧ T ≤ 2097152 := by have h1 := pw_pos t; have h2 := pw_le21 (n := t) (by omega) b4; rw [HT.out] at h1 h2; exact ⟨h1, h2⟩
  obtain ⟨hT1, hT2⟩ := hT1
  clear b7
  refine (callsIn_wide (n := 8)).1 ?_
  refine callsIn_of_wp_marks Try.func69 rfl trivial ?_ rfl
  refine wpIn_wide.2 ?_
  simp only [Try.ntmps69, List.size_toArray, List.length_cons, List.length_nil, Nat.reduceAdd, Nat.reduceSub, Array.replicate_succ, Array.replicate_zero, List.push_toArray, List.append_toArray, List.nil_append, List.cons_append]
  have HK := St.lit HKb (0, T - 1) (by intro p hp; simp at hp; subst hp; simp; omega)
  obtain ⟨w5, hw5⟩ : ∃ w5, (((w.alloc (.cells #[.int .i64 a, .int .i64 d, .int .i64 t, .int .i64 u] 23)).alloc (.cells #[.slice G g0.length c] 24)).alloc (.cells #[.int .i64 0, .int .i64 (T - 1)] 34)) = w5 := ⟨_, rfl⟩
  have hs5 : w5.heap.size = w.heap.size + 1 + 1 + 1 := by rw [← hw5]; simp
  rw [hw5] at HK
  have HW := Lib.hid hw5
  clear hw5
  go_upto_region 2 with fail
  rw [HW.out]
  obtain ⟨hll, hgb, ⟨hp0, hp1, hp2, hp3⟩, _⟩ := HK.out.now
  have HL := Lib.hid hll
  have hall : (some ⟨(((w.alloc (.cells #[.int .i64 a, .int .i64 d, .int .i64 t, .int .i64 u] 23)).alloc (.cells #[.slice G g0.length c] 24))).heap.size, 0, none⟩ : Option Addr) = some ⟨w.heap.size + 1 + 1, 0, none⟩ := by simp
  rw [hall] at HK HL
  clear hall hll
  by_cases hu : u = 0
  · subst hu
    have Rm : Hid (Rep r (fun x => Mem g0 x ∧ Mem [(0, T - 1)] x)) := Lib.hid (hr.out.congr fun x => by
      rw [mem_span (by omega) (by omega)]
      unfold TkS
      rw [HT.out, show pw 0 = 1 from rfl, Int.mul_one]
      constructor
      · rintro ⟨h1, h2, h3⟩; exact ⟨h3, h1, h2⟩
      · rintro ⟨h3, h1, h2⟩; exact ⟨h1, h2, h3⟩)
    go_wp2_with fail
    refine (Meet_st HK (fun _ h => hg _ h.2.2.2) (fun _ h => h.1) _ _ Rm).mono ?_
    rintro e w3 ⟨A1, c1, rfl, HK⟩
    go_wp2_with fail
    refine leaveM_nil (.slice A1 r.length c1) (by simp [results, Try.f69, go_sem]) ?_
    exact ⟨_, _, rfl, Lib.hid (HK.out.weaken fun W h => ⟨h.1, h.2.2.2.2⟩)⟩
  · have hu0 : (u == 0) = false := by simpa using hu
    have HPL : Hid (Plain [(0, T - 1)]) := Lib.hid (plain_one (by omega) (by omega) (by omega))
    have HSF : Hid (Rep [(0, T - 1)] (Mem [(0, T - 1)])) := Lib.hid (Rep.self HPL.out)
    have HW5 := Lib.hid ((Below.refl w5.heap.size w5).alloc (Nat.le_refl _) (.cells #[.slice none 0 0] 24))
    have HKA := Lib.hid (HK.out.add HW5.out (G := fun W => True) (fun _ _ => trivial))
    have HE := Lib.hid (Each_any (some ⟨w.heap.size + 1 + 1, 0, none⟩) 1 1 [(0, T - 1)] [(0, T - 1)] (w5.alloc (.cells #[.slice none 0 0] 24)) (by have := HKA.out.now.2.1.sp; simpa using this) HKA.out.now.2.1.wd (by omega) HSF.out)
    have hnl : (nums [(0, T - 1)]).length ≤ 2097152 := by
      have h1 := nums_length HPL.out
      simp only [cnt, List.map_cons, List.map_nil, List.sum_cons, List.sum_nil] at h1
      omega
    have HS5 := Lib.hid hs5
    have hlt5 : w.heap.size + 1 + 1 < w5.heap.size := by omega
    go_wp2_with fail
    refine HE.out.mono ?_
    rintro e w6 ⟨B, g, c6, rfl, hbd, hcB, hsp, hb6⟩
    obtain ⟨hb56, hbr0, hsz6, hsq⟩ := each_box HPL.out hbd hcB hsp hb6
    have HB6 := Lib.hid hb56
    have HB0 := Lib.hid hbr0
    have HSQ := Lib.hid hsq
    rw [hs5] at HB0 HSQ
    clear hbd hcB hsp hb6 HE hb56 hbr0 hsq hp0 hp1 hp2 hp3 hgb
    go_wp2_with fail
    refine wp_rangeFunc (gf := 100) (lb := #[.pointer (some ⟨B, 0, none⟩)]) rfl (enters_of Try.func100 (by kernel_rfl) rfl) HSQ.out kpB_t (kpB_b (by omega)) (fun _ => rfl)
      (fun pre W => BoxRow (w.heap.size + 1 + 1 + 1) (w.heap.size + 1 + 1 + 1 + 1) ((pre.filter fun y => hasB g0 (shlV u y)).map fun v => (v, v)) W ∧ (pre.length ≤ (nums [(0, T - 1)]).length ∧ Below w5.heap.size w5 W))
      (fun _ _ _ => False)
      (OwnFrom.and (BoxRow.own _ _ _ _) (OwnFrom.and (ownFrom_pure _ _) (ownFrom_below (Nat.le_refl _) (by omega))))
      (fun _ _ _ _ _ h _ _ => h)
      ⟨HB0.out, Nat.zero_le _, HB6.out⟩
      ?act ?assign ?body ?done ?stop
    case assign =>
      intro l x W K hK
      gi_wp2
      exact hK
    case body =>
      rintro l pre x W ⟨hbr, hlen1, hbW⟩ hlen
      obtain ⟨Ab, cb, hv, hf, hrow⟩ := hbr
      have HKW := Lib.hid (HK.out.step hbW)
      obtain ⟨_, hgbW, ⟨hp0, hp1, hp2, hp3⟩, hF⟩ := HKW.out.now
      have HLG := Lib.hid (hg W hF)
      gi_wp2
      obtain ⟨y, hy⟩ : ∃ y, IntKind.i64.wrap (x * 2 ^ u.toNat) = y := ⟨_, rfl⟩
      obtain ⟨o, ho⟩ : ∃ o, o = (pre.filter fun y => hasB g0 (shlV u y)).map fun v => (v, v) := ⟨_, rfl⟩
      rw [← ho] at hv hrow
      have hol : o.length < 1099511627776 := by
        rw [ho, List.length_map]
        have := List.length_filter_le (fun y => hasB g0 (shlV u y)) pre
        omega
      have HOE := Lib.hid ho
      have HROW := Lib.hid hrow
      have HBW := Lib.hid hbW
      have HHAS := Lib.hid (Has_any G g0.length c g0 y W.drew (HLG.out.sp.drewN 1) (by have := HLG.out.len; omega))
      have HGB := Lib.hid hgbW
      have hBox := lt_of_cell hv
      clear ho hrow hbW hF
      rcases hbv : hasB g0 y with _ | _
      · rw [hbv] at HHAS
        have HBV := Lib.hid hbv
        clear hbv
        refine region_round_held (by kernel_rfl) (fun _ _ h => h) (by kernel_rfl) (fun w' => w'.cell? ⟨w.heap.size + 1, 0, none⟩ = some (.slice G g0.length c) ∧ w'.cell? ⟨w.heap.size, 3, none⟩ = some (.int .i64 u)) ⟨hgbW, hp3⟩ (fun hHeld => ?_)
        refine wpAnyH_take (i := 0) (v := ?_) rfl (by kernel_rfl) (by kernel_rfl) (by kernel_rfl) (fun _ _ _ h => h) (Or.inl ⟨by rfl, ?_⟩) (by assumption) ?_
        rotate_left
        · intro w hSw; (try dsimp only at hSw); go_simp; (try with_reducible rfl)
        (try simp only [Act.put, List.setIfInBounds_toArray, List.set_cons_zero, List.set_cons_succ])
        refine wpAnyH_take (i := 1) (v := ?_) rfl (by kernel_rfl) (by kernel_rfl) (by kernel_rfl) (fun _ _ _ h => h) (Or.inl ⟨by rfl, ?_⟩) (by assumption) ?_
        rotate_left
        · intro w hSw; (try dsimp only at hSw); go_simp; (try with_reducible rfl)
        (try simp only [Act.put, List.setIfInBounds_toArray, List.set_cons_zero, List.set_cons_succ])
        refine wpAnyH_take (i := 2) (v := ?_) rfl (by kernel_rfl) (by kernel_rfl) (by kernel_rfl) (fun _ _ _ h => h) (Or.inl ⟨by rfl, ?_⟩) (by assumption) ?_
        rotate_left
        · intro w hSw; (try dsimp only at hSw); go_simp; (try with_reducible rfl)
        (try simp only [Act.put, List.setIfInBounds_toArray, List.set_cons_zero, List.set_cons_succ])
        refine wpAnyH_take (i := 3) (v := ?_) rfl (by kernel_rfl) (by kernel_rfl) (by kernel_rfl) (fun _ _ _ h => h) (Or.inl ⟨by rfl, ?_⟩) (by assumption) ?_
        rotate_left
        · intro w hSw; (try dsimp only at hSw); go_simp; (try with_reducible rfl)
        (try simp only [Act.put, List.setIfInBounds_toArray, List.set_cons_zero, List.set_cons_succ])
        refine wpAnyH_take (i := 4) (v := ?_) rfl (by kernel_rfl) (by kernel_rfl) (by kernel_rfl) (fun _ _ _ h => h) (Or.inl ⟨by rfl, ?_⟩) (by assumption) ?_
        rotate_left
        · intro w hSw; (try dsimp only at hSw); go_simp; (try with_reducible rfl)
        (try simp only [Act.put, List.setIfInBounds_toArray, List.set_cons_zero, List.set_cons_succ])
        refine wpAnyH_ready (rs := [5]) (by kernel_rfl) (by simp) (AllReadyH.cons rfl (fun K hK => ?_) AllReadyH.nil)
        go_simp
        refine HHAS.out.out.mono ?_
        rintro e w7 ⟨rfl, hb7⟩
        have hb7W : Below W.heap.size W w7 := below_to (below_drewN (Below.refl _ _) 1) hb7
        have HB7 := Lib.hid hb7W
        refine hK.out _ _ (⟨(hb7W.cell (lt_of_cell hgbW)).trans hgbW, (hb7W.cell (lt_of_cell hp3)).trans hp3⟩) (fun hHeld => ?_)
        clear hK K
        (try simp only [Act.put, List.setIfInBounds_toArray, List.set_cons_zero, List.set_cons_succ])
        refine wpAnyH_done (by kernel_rfl) ?_ _
        gi_wp2
        have e : ((pre ++ [x]).filter fun y => hasB g0 (shlV u y)).map (fun v => ((v, v) : Sp)) = o := by
          have hx : hasB g0 (shlV u x) = false := by rw [← HBV.out, ← hy]; rfl
          rw [List.filter_append, List.filter_cons_of_neg (by simp [hx]), List.filter_nil, List.append_nil]; exact HOE.out.symm
        refine ⟨keeps_below HB7.out, KpB.below HB7.out (Nat.le_refl _) hBox, ?_, by simp; omega, below_to HBW.out HB7.out⟩
        show BoxRow _ _ (((pre ++ [x]).filter fun y => hasB g0 (shlV u y)).map (fun v => ((v, v) : Sp))) _
        rw [e]
        exact ⟨Ab, cb, (HB7.out.cell hBox).trans hv, (HB7.out.frozen hBox).trans hf, HROW.out.below HB7.out⟩
      · rw [hbv] at HHAS
        have HBV := Lib.hid hbv
        clear hbv
        refine region_round_held (by kernel_rfl) (fun _ _ h => h) (by kernel_rfl) (fun w' => w'.cell? ⟨w.heap.size + 1, 0, none⟩ = some (.slice G g0.length c) ∧ w'.cell? ⟨w.heap.size, 3, none⟩ = some (.int .i64 u)) ⟨hgbW, hp3⟩ (fun hHeld => ?_)
        refine wpAnyH_take (i := 0) (v := ?_) rfl (by kernel_rfl) (by kernel_rfl) (by kernel_rfl) (fun _ _ _ h => h) (Or.inl ⟨by rfl, ?_⟩) (by assumption) ?_
        rotate_left
        · intro w hSw; (try dsimp only at hSw); go_simp; (try with_reducible rfl)
        (try simp only [Act.put, List.setIfInBounds_toArray, List.set_cons_zero, List.set_cons_succ])
        refine wpAnyH_take (i := 1) (v := ?_) rfl (by kernel_rfl) (by kernel_rfl) (by kernel_rfl) (fun _ _ _ h => h) (Or.inl ⟨by rfl, ?_⟩) (by assumption) ?_
        rotate_left
        · intro w hSw; (try dsimp only at hSw); go_simp; (try with_reducible rfl)
        (try simp only [Act.put, List.setIfInBounds_toArray, List.set_cons_zero, List.set_cons_succ])
        refine wpAnyH_take (i := 2) (v := ?_) rfl (by kernel_rfl) (by kernel_rfl) (by kernel_rfl) (fun _ _ _ h => h) (Or.inl ⟨by rfl, ?_⟩) (by assumption) ?_
        rotate_left
        · intro w hSw; (try dsimp only at hSw); go_simp; (try with_reducible rfl)
        (try simp only [Act.put, List.setIfInBounds_toArray, List.set_cons_zero, List.set_cons_succ])
        refine wpAnyH_take (i := 3) (v := ?_) rfl (by kernel_rfl) (by kernel_rfl) (by kernel_rfl) (fun _ _ _ h => h) (Or.inl ⟨by rfl, ?_⟩) (by assumption) ?_
        rotate_left
        · intro w hSw; (try dsimp only at hSw); go_simp; (try with_reducible rfl)
        (try simp only [Act.put, List.setIfInBounds_toArray, List.set_cons_zero, List.set_cons_succ])
        refine wpAnyH_take (i := 4) (v := ?_) rfl (by kernel_rfl) (by kernel_rfl) (by kernel_rfl) (fun _ _ _ h => h) (Or.inl ⟨by rfl, ?_⟩) (by assumption) ?_
        rotate_left
        · intro w hSw; (try dsimp only at hSw); go_simp; (try with_reducible rfl)
        (try simp only [Act.put, List.setIfInBounds_toArray, List.set_cons_zero, List.set_cons_succ])
        refine wpAnyH_ready (rs := [5]) (by kernel_rfl) (by simp) (AllReadyH.cons rfl (fun K hK => ?_) AllReadyH.nil)
        go_simp
        refine HHAS.out.out.mono ?_
        rintro e w7 ⟨rfl, hb7⟩
        have hb7W : Below W.heap.size W w7 := below_to (below_drewN (Below.refl _ _) 1) hb7
        have HB7 := Lib.hid hb7W
        refine hK.out _ _ (⟨(hb7W.cell (lt_of_cell hgbW)).trans hgbW, (hb7W.cell (lt_of_cell hp3)).trans hp3⟩) (fun hHeld => ?_)
        clear hK K
        (try simp only [Act.put, List.setIfInBounds_toArray, List.set_cons_zero, List.set_cons_succ])
        refine wpAnyH_done (by kernel_rfl) ?_ _
        have hv7 : w7.cell? ⟨w.heap.size + 1 + 1 + 1, 0, none⟩ = some (.slice Ab o.length cb) := (hb7W.cell hBox).trans hv
        have HROW7 := Lib.hid (HROW.out.below hb7W)
        have hs7 := hb7W.size
        clear hb7 hb7W hHeld
        gi_wp2_with (
          gi_at_builtin
          refine wpListIn_pushS rfl _ _ rfl HROW7.out rfl rfl hol (by omega) ?_
          intro l2 A2 c2 w8 HL2 HO2 HG2 HAT2
          have HPU := Lib.hid (BoxRow.push (lo := w.heap.size + 1 + 1 + 1) (hi := w.heap.size + 1 + 1 + 1 + 1) (Nat.le_refl _) (by omega) (Nat.le_refl _) hv hf HROW.out (w0 := w7) (ob := .cells #[.int .i64 x, .int .i64 x] 34) HB7.out rfl HO2.out HG2.out HAT2.out)
          have hbx8 : w8.cell? ⟨w.heap.size + 1 + 1 + 1, 0, none⟩ = some (.slice Ab o.length cb) := by
            refine HG2.out.cell (cellAlloc _ hv7) (fun e => ?_)
            have := HROW7.out.lt _ e.symm
            simp at this; omega
          have hbf8 : w8.frozen? ⟨w.heap.size + 1 + 1 + 1, 0, none⟩ = false := by
            have := HPU.out.2.2.1
            obtain ⟨A8, c8, q1, q2, q3⟩ := this
            rwa [World.frozen?_setCell] at q2)
        obtain ⟨q1, q2, q3, q4⟩ := HPU.out
        have e : l2 = ((pre ++ [x]).filter fun y => hasB g0 (shlV u y)).map (fun v => ((v, v) : Sp)) := by
          have hx : hasB g0 (shlV u x) = true := by rw [← HBV.out, ← hy]; rfl
          rw [HL2.out, HOE.out, List.filter_append, List.filter_cons_of_pos (by simp [hx]), List.filter_nil, List.map_append]; rfl
        refine ⟨q1, q2, ?_, by simp; omega, HBW.out.trans (q4.mono (by omega))⟩
        show BoxRow _ _ (((pre ++ [x]).filter fun y => hasB g0 (shlV u y)).map (fun v => ((v, v) : Sp))) _
        rw [← e]; exact q3
    case done =>
      rintro D' xs W hD' rfl ⟨hbr, hlen1, hbW⟩ hKD
      obtain ⟨Ab, cb, hv, hf, hrow⟩ := hbr
      have ht6 : t ≤ 6 := by rcases HB7.out with h | h; exact absurd h hu; exact h
      have hnr : ∀ y, y ∈ nums [(0, T - 1)] ↔ 0 ≤ y ∧ y ≤ T - 1 := fun y => by rw [nums_mem, InS_one]
      have hT64 : T ≤ 64 := by have := pw_le6 (n := t) (by omega) ht6; rw [HT.out] at this; exact this
      obtain ⟨lu, hlu⟩ : ∃ l, (((nums [(0, T - 1)]).filter fun y => hasB g0 (shlV u y)).map (fun v => ((v, v) : Sp))) = l := ⟨_, rfl⟩
      have hmem : ∀ p ∈ lu, p.1 = p.2 ∧ 0 ≤ p.1 ∧ p.1 ≤ T - 1 := by
        intro p hp
        rw [← hlu] at hp
        obtain ⟨y, hy, rfl⟩ := List.mem_map.1 hp
        have h1 := (hnr y).1 ((List.mem_filter.1 hy).1)
        exact ⟨rfl, h1⟩
      have HIN : Hid (∀ y, InS lu y ↔ TkS t u g0 y) := by
        intro y
        unfold TkS
        rw [InS_iff, HT.out]
        constructor
        · rintro ⟨p, hp, g1, g2⟩
          rw [← hlu] at hp
          obtain ⟨z, hz, rfl⟩ := List.mem_map.1 hp
          obtain rfl : y = z := by simp only at g1 g2; omega
          have h1 := (hnr y).1 ((List.mem_filter.1 hz).1)
          have h2 := (List.mem_filter.1 hz).2
          rw [hasB_iff, shlV_eq (by omega) (by omega) (by omega) (by omega)] at h2
          exact ⟨h1.1, h1.2, h2⟩
        · rintro ⟨h0, h1, h2⟩
          refine ⟨(y, y), ?_, Int.le_refl _, Int.le_refl _⟩
          rw [← hlu]
          refine List.mem_map.2 ⟨y, List.mem_filter.2 ⟨(hnr y).2 ⟨h0, h1⟩, ?_⟩, rfl⟩
          rw [hasB_iff, shlV_eq (by omega) (by omega) (by omega) (by omega)]
          exact h2
      have hll : lu.length < 137438953472 := by
        rw [← hlu, List.length_map]
        have := List.length_filter_le (fun y => hasB g0 (shlV u y)) (nums [(0, T - 1)])
        omega
      have hwu : SpW lu := fun p hp => by have := hmem p hp; omega
      rw [hlu] at hv hrow
      have hDW : D' < W.heap.size := (Array.getElem?_eq_some_iff.1 hKD).1
      obtain ⟨s, Rs⟩ := rep_norm lu
      have HK7 := Lib.hid ((HK.out.step hbW).add (Below.refl _ _) (G := fun W' => Lst Ab lu W' ∧ Below w5.heap.size w5 W' ∧ W'.heap[D']? = some (.deferred (some []))) (fun W' hW' => ⟨⟨hrow.spans.below hW', hwu, hll⟩, hbW.trans (hW'.mono hbW.size), (hW'.block D' hDW).trans hKD⟩))
      have hlt := lt_of_cell hv
      clear hlu hKD hbW hrow hDW hmem hnr
      go_wp2_with fail
      refine (Norm_st HK7 (fun _ h => h.1.1) _ Rs).mono ?_
      rintro e w8 ⟨A8, c8, rfl, HK8⟩
      go_wp2_with fail
      have hn8 := HK8.out.now
      refine leaveM_mark (.slice A8 s.length c8) hn8.2.1.2.2 (fun w' => by simp [results, Try.f69, go_sem]) ?_
      have hm : Rep s (TkS t u g0) := Rs.out.congr fun y => by
        rw [← HIN.out]
        refine ⟨fun h => h.2.2, fun h => ?_⟩
        have := (HIN.out y).1 h
        unfold TkS at this
        rw [HT.out] at this
        exact ⟨by omega, by omega, h⟩
      obtain rfl := Rep.unique hm hr.out (fun _ => Iff.rfl)
      exact ⟨_, _, rfl, Lib.hid ((HK.out.mark hn8.2.1.2.1 hn8.1 (by omega) hn8.2.1.2.2).weaken fun W h => ⟨h.1, h.2.2.2.2⟩)⟩
    case stop =>
      rintro D cd pre W hD hpre hF
      exact hF.elim
end
end Go.Proofs.Ytdaagdohhnhbdaa
