/- Contract of umlautref04.Window: the window with a number. Condition: the guards are known, plain lists of symbols with something in each; at most 20. Openers for arguments that are slices of records: from the claim's reading of a slice to 'RowsAt'. Condition: none. Openers for arguments that are terms, and slices of runes. Condition: none. -/
import Derived.Test.YtpmhdjiacgckjaaM24
import Derived.Test.YtpmhdjiacgckjaaM09
import Derived.Test.YtpmhdjiacgckjaaM14
import Derived.Test.YtpmhdjiacgckjaaM06
import Derived.Test.YtpmhdjiacgckjaaM08
import Derived.Deep.Slices
import Derived.OpenShut
import Derived.ChangeArms
import Derived.ChangeSame
section
namespace Go.Proofs.Ytpmhdjiacgckjaa
open Go.RowKit
set_option linter.unusedVariables false
set_option linter.unusedSimpArgs false
theorem infoRn : (Try.prog.info? 21).map (fun i => (i.zero, i.size, i.bytes)) = some (some (.int .i32 0), 1, 4) := by kernel_rfl
/-- of guards from the last one to the first one -/
def winF : List (List Sp) → Int → List Int
  | [], _ => []
  | g :: gs, k => optD (nthS g (k % cnt g)) :: winF gs (k / cnt g)
def winL (gs : List (List Sp)) (k : Int) : List Int := (winF gs.reverse k).reverse
theorem winF_length (gs : List (List Sp)) (k : Int) : (winF gs k).length = gs.length := by induction gs generalizing k with
  | nil => rfl
  | cons g gs ih => simp [winF, ih]
theorem winL_length (gs : List (List Sp)) (k : Int) : (winL gs k).length = gs.length := by unfold winL; rw [List.length_reverse, winF_length, List.length_reverse]
theorem winL_snoc (gs : List (List Sp)) (g : List Sp) (k : Int) : winL (gs ++ [g]) k = winL gs (k / cnt g) ++ [optD (nthS g (k % cnt g))] := by
  unfold winL
  rw [List.reverse_append]
  simp [winF]
theorem flat_i32 (l : List Int) : l.flatMap (fun x => [Value.int .i32 x]) = l.map (Value.int .i32) := by
  induction l with
  | nil => rfl
  | cons x d ih => rw [List.flatMap_cons, ih]; rfl
def SymG (s : List Sp) : Prop := Plain s ∧ s ≠ [] ∧ ∀ x, InS s x → 0 ≤ x ∧ x ≤ 1114111
theorem SymG.cnt {s : List Sp} (h : SymG s) : 1 ≤ cnt s ∧ cnt s ≤ 1114112 := by
  have hn := nums_length h.1
  have h1 : (nums s).Nodup := (numsL_rising h.1).imp (fun h e => by omega)
  have h2 := nodup_le h1 (m := (List.range 1114112).map (fun (k : Nat) => (k : Int))) (fun x hx => by
    have := h.2.2 x ((nums_mem s x).1 hx)
    exact List.mem_map.2 ⟨x.toNat, List.mem_range.2 (by omega), by omega⟩)
  simp at h2
  obtain ⟨p, s', hs⟩ : ∃ p s', s = p :: s' := by
    cases s with
    | nil => exact absurd rfl h.2.1
    | cons p s' => exact ⟨p, s', rfl⟩
  have h3 : p.1 ∈ nums s := by
    rw [nums_mem, InS_iff, hs]
    have hp := h.1
    rw [hs] at hp
    exact ⟨p, List.mem_cons_self .., Int.le_refl _, hp.2.1⟩
  have := List.length_pos_of_mem h3
  omega
theorem winL_in : ∀ {gs : List (List Sp)}, (∀ s ∈ gs, SymG s) → ∀ {k : Int}, 0 ≤ k → ∀ (i : Nat) s x, gs[i]? = some s → (winL gs k)[i]? = some x → InS s x := by
  have hF : ∀ (gs : List (List Sp)), (∀ s ∈ gs, SymG s) → ∀ (k : Int), 0 ≤ k → ∀ (i : Nat) s x, gs[i]? = some s → (winF gs k)[i]? = some x → InS s x := by
    intro gs
    induction gs with
    | nil => intro _ k _ i s x h; simp at h
    | cons g gs ih =>
      intro hg k hk i s x h1 h2
      have hc := (hg g (List.mem_cons_self ..)).cnt
      cases i with
      | zero =>
        simp [winF] at h1 h2
        subst h1; subst h2
        obtain ⟨y, hy, hin⟩ := nthS_some (hg g (List.mem_cons_self ..)).1 (Int.emod_nonneg k (by omega)) (Int.emod_lt_of_pos k (by omega))
        rw [hy]; exact hin
      | succ i => exact ih (fun s hs => hg s (List.mem_cons_of_mem _ hs)) (k / cnt g) (Int.ediv_nonneg hk (by omega)) i s x (by simpa using h1) (by simpa [winF] using h2)
  intro gs hg k hk i s x h1 h2
  have hi := (List.getElem?_eq_some_iff.1 h1).1
  unfold winL at h2
  have e : (winF gs.reverse k).length = gs.length := by rw [winF_length, List.length_reverse]
  rw [List.getElem?_reverse (by omega), e] at h2
  refine hF gs.reverse (fun s hs => hg s (List.mem_reverse.1 hs)) k hk (gs.length - 1 - i) s x ?_ h2
  rw [List.getElem?_reverse (by omega), show gs.length - 1 - (gs.length - 1 - i) = i by omega]
  exact h1
section
variable {w0 w : World} {F : World → Prop}
set_option maxRecDepth 100000 in
set_option maxHeartbeats 16000000 in
theorem Window_st (hK : Hid (St w0 w F)) {A : Option Addr} {O : List (Item Sp)} (ha : ∀ W, F W → LLx A O W) (hg : Hid (∀ s ∈ bodies O, SymG s)) (hs : Hid (∀ i ∈ O, i.2.2.length ≤ 1000)) (hlo : O.length ≤ 20) (c : Nat) (k : Int) (hk0 : 0 ≤ k) (hk1 : k ≤ 1073741824) :
    Calls Try.prog 18 #[.slice A O.length c, .int .i64 k] w fun e w' => ∃ B, e = .returned (.slice B (winL (bodies O) k).length (winL (bodies O) k).length) ∧ Hid (St w0 w' (fun W => RunesAt B (winL (bodies O) k) W ∧ F W)) := by
  have HA := Lib.hid ha
  obtain ⟨i0, hi, hz0, hz1, hz2⟩ := info_parts infoRn
  obtain ⟨n, hn⟩ : ∃ n, O.length = n := ⟨_, rfl⟩
  have HWL : Hid ((winL (bodies O) k).length = n) := Lib.hid (by rw [winL_length, bodies_length, hn])
  have HN := Lib.hid hn
  rw [hn] at hlo ⊢
  clear ha hn
  go_enter Try.func18, Try.ntmps18
  go_wp2_with (at_make; go_must (refine wpList_make_full _ rfl _ _ 27 rfl w.heap.size 21 i0 (.int .i32 0) 1 Try.underlying27 hi hz0 hz1 _ _ _ _ n rfl rfl rfl rfl ?c1 ?c2 (Nat.le_refl _) ?c3))
  case c1 => rw [hz2]; omega
  case c2 => unfold maxLen; omega
  case c3 =>
  intro w1 hown hgm
  have hb : Below w.heap.size w w1 := (Below.refl _ w).grown hgm (Nat.le_refl _) (by intro k hk; cases hk)
  clear hgm
  go_wp2_with fail
  go_loopw [1, 6] (fun kv iv wr => ∃ (m : Nat) (kk : Int) (L : List Value) (done : List Int), m ≤ n ∧ kv = .int .i64 kk ∧ iv = .int .i64 ((m : Int) - 1) ∧ 0 ≤ kk ∧ kk ≤ 1073741824 ∧ wr.ownsRow w.heap.size 21 1 (.slice (some ⟨w.heap.size, 0, none⟩) n n) n L ∧ Below w.heap.size w wr ∧
    Hid (winL (bodies O) k = winL ((bodies O).take m) kk ++ done ∧ L.drop m = done.map (Value.int .i32) ∧ ∀ x ∈ done, 0 ≤ x ∧ x ≤ 1114111)) (fun _ iv _ => (intOf iv + 1).toNat)
  case atStart => exact ⟨n, k, _, [], Nat.le_refl _, rfl, by simp, hk0, hk1, hown, hb, Lib.hid ⟨by rw [List.take_of_length_le (by rw [bodies_length, HN.out]; exact Nat.le_refl _), List.append_nil], by rw [List.drop_of_length_le (by have := hown.1; omega)]; rfl, fun x hx => by cases hx⟩⟩
  case round =>
  obtain ⟨m, kk, L, done, hm, rfl, rfl, hkk0, hkk1, hown, hb, HD⟩ := hrel
  cases m with
  | zero =>
    have HE : Hid (winL (bodies O) k = done ∧ L = done.map (Value.int .i32)) := Lib.hid ⟨by rw [HD.out.1]; rfl, by rw [← HD.out.2.1]; simp⟩
    have HOWN := Lib.hid hown
    have HB := Lib.hid hb
    clear hown hb
    go_wp2_with fail
    go_ret
    refine ⟨some ⟨w.heap.size, 0, none⟩, by rw [HWL.out]; rfl, Lib.hid (hK.out.add HB.out fun W hW => ?_)⟩
    have hs : Sl wr 1 (some ⟨w.heap.size, 0, none⟩) n L := Sl.of_own HOWN.out
    rw [HE.out.1]
    have hl2 : done.length = n := by rw [← HE.out.1]; exact HWL.out
    refine ⟨?_, fun x hx => ?_, by omega⟩
    · have h := Sl.below (B := 0) hs hW
      rw [HE.out.2] at h
      rw [hl2]
      rw [flat_i32]; exact h
    · have := HD.out.2.2 x hx
      unfold RuneW; omega
  | succ m =>
    have hsm : ((m + 1 : Nat) : Int) - 1 = (m : Int) := by omega
    rw [hsm]
    have HS := Lib.hid (hK.out.step hb)
    obtain ⟨gb, off, ba, bc, b, hA, hO, hbd, hc, hl⟩ := (HA.out _ HS.out.now).at_ (k := m) (by rw [HN.out]; omega)
    have hsg := hg.out b (List.mem_of_getElem? hbd)
    obtain ⟨cb, hcb⟩ : ∃ z, cnt b = z := ⟨_, rfl⟩
    have hcb1 := hsg.cnt
    rw [hcb] at hcb1
    have hcb0 : ¬ cb = 0 := by omega
    have hrm : kk.tmod cb = kk % cb := Int.tmod_eq_emod_of_nonneg hkk0
    have hqu : kk.tdiv cb = kk / cb := Int.tdiv_eq_ediv_of_nonneg hkk0
    have hr0 := Int.emod_nonneg kk (b := cb) (by omega)
    have hr1 := Int.emod_lt_of_pos kk (b := cb) (by omega)
    obtain ⟨x, hx, hxin⟩ := nthS_some hsg.1 hr0 (by rw [hcb]; exact hr1)
    have hx21 := hsg.2.2 x hxin
    have hq0 : 0 ≤ kk / cb := Int.ediv_nonneg hkk0 (by omega)
    have hq1 : kk / cb ≤ 1073741824 := Int.le_trans (Int.ediv_le_self _ hkk0) hkk1
    obtain ⟨r, hr⟩ : ∃ z, kk % cb = z := ⟨_, rfl⟩
    obtain ⟨q, hq⟩ : ∃ z, kk / cb = z := ⟨_, rfl⟩
    rw [hr] at hrm hr0 hr1 hx
    rw [hq] at hqu hq0 hq1
    have hmi : (m : Int) < (n : Int) := by omega
    have hll : m < L.length := by have := hown.1; omega
    have HNEW : Hid (winL (bodies O) k = winL ((bodies O).take m) q ++ (x :: done) ∧ (L.set m (.int .i32 x)).drop m = (x :: done).map (Value.int .i32) ∧ ∀ y ∈ x :: done, 0 ≤ y ∧ y ≤ 1114111) := Lib.hid (by
      refine ⟨?_, ?_, fun y hy => ?_⟩
      · rw [HD.out.1, take_snoc? hbd, winL_snoc, hcb, hr, hq, hx]; simp [optD]
      · rw [List.map_cons, ← HD.out.2.1, drop_cons? (x := Value.int .i32 x) (by rw [List.getElem?_set_self hll])]
        rw [List.drop_set_of_lt (Nat.lt_succ_self m)]
      · rcases List.mem_cons.1 hy with rfl | hy
        · exact hx21
        · exact HD.out.2.2 y hy)
    have HSF : Hid (Rep b (Mem b)) := Lib.hid (Rep.self hsg.1)
    have HKc : Hid (St wr wr (fun W => W.cell? ⟨gb, off + m, none⟩ = some (.slice ba b.length bc) ∧ Lst ba b W)) := Lib.hid (St.start fun W hW => ⟨(hW.cell (lt_of_cell hc)).trans hc, hl.below hW⟩)
    have hbl : b.length ≤ 1000 := hs.out _ (List.mem_of_getElem? hO)
    have HCB := Lib.hid hcb
    have HX := Lib.hid hx
    have HSG := Lib.hid hsg
    subst hA
    clear hO hbd hsg hr hq hx hxin hl hcb
    go_wp2_with fail
    refine (rCount_st HKc (fun _ h => h.2) (by omega) bc HSF).mono ?_
    rintro e w2 ⟨rfl, HK2⟩
    rw [HCB.out]
    obtain ⟨hc2, hl2⟩ := HK2.out.now
    go_wp2_with fail
    refine wp_region_Z 12 (by kernel_rfl) (fun W => W.cell? ⟨gb, off + m, none⟩ = some (.slice ba b.length bc)) hc2 (fun hHeld => ?_)
    refine wpAnyZ_take (i := 0) (v := ?_) rfl (by kernel_rfl) (by kernel_rfl) (by kernel_rfl) (by kernel_rfl) (fun _ _ _ h => h) (Or.inl ⟨by first | kernel_rfl | rfl, ?_⟩) (by assumption) ?_
    rotate_left
    · intro w hSw; (try dsimp only at hSw); go_simp; (try with_reducible rfl)
    (try simp only [Act.put, List.getElem_toArray, List.getElem_cons_succ, List.getElem_cons_zero, List.setIfInBounds_toArray, List.set_cons_zero, List.set_cons_succ])
    refine wpAnyZ_take (i := 1) (v := ?_) rfl (by kernel_rfl) (by kernel_rfl) (by kernel_rfl) (by kernel_rfl) (fun _ _ _ h => h) (Or.inl ⟨by first | kernel_rfl | rfl, ?_⟩) (by assumption) ?_
    rotate_left
    · intro w hSw; (try dsimp only at hSw); go_simp; (try with_reducible rfl)
    (try simp only [Act.put, List.getElem_toArray, List.getElem_cons_succ, List.getElem_cons_zero, List.setIfInBounds_toArray, List.set_cons_zero, List.set_cons_succ])
    refine wpAnyZ_take (i := 2) (v := ?_) rfl (by kernel_rfl) (by kernel_rfl) (by kernel_rfl) (by kernel_rfl) (fun _ _ _ h => h) (Or.inl ⟨by first | kernel_rfl | rfl, ?_⟩) (by assumption) ?_
    rotate_left
    · intro w hSw; (try dsimp only at hSw); go_simp; (try with_reducible rfl)
    (try simp only [Act.put, List.getElem_toArray, List.getElem_cons_succ, List.getElem_cons_zero, List.setIfInBounds_toArray, List.set_cons_zero, List.set_cons_succ])
    refine wpAnyZ_take (i := 3) (v := ?_) rfl (by kernel_rfl) (by kernel_rfl) (by kernel_rfl) (by kernel_rfl) (fun _ _ _ h => h) (Or.inl ⟨by first | kernel_rfl | rfl, ?_⟩) (by assumption) ?_
    rotate_left
    · intro w hSw; (try dsimp only at hSw); go_simp; (try with_reducible rfl)
    (try simp only [Act.put, List.getElem_toArray, List.getElem_cons_succ, List.getElem_cons_zero, List.setIfInBounds_toArray, List.set_cons_zero, List.set_cons_succ])
    refine wpAnyZ_take (i := 4) (v := ?_) rfl (by kernel_rfl) (by kernel_rfl) (by kernel_rfl) (by kernel_rfl) (fun _ _ _ h => h) (Or.inl ⟨by first | kernel_rfl | rfl, ?_⟩) (by assumption) ?_
    rotate_left
    · intro w hSw; (try dsimp only at hSw); go_simp; (try with_reducible rfl)
    (try simp only [Act.put, List.getElem_toArray, List.getElem_cons_succ, List.getElem_cons_zero, List.setIfInBounds_toArray, List.set_cons_zero, List.set_cons_succ])
    refine wpAnyZ_take (i := 5) (v := ?_) rfl (by kernel_rfl) (by kernel_rfl) (by kernel_rfl) (by kernel_rfl) (fun _ _ _ h => h) (Or.inl ⟨by first | kernel_rfl | rfl, ?_⟩) (by assumption) ?_
    rotate_left
    · intro w hSw; (try dsimp only at hSw); go_simp; (try with_reducible rfl)
    (try simp only [Act.put, List.getElem_toArray, List.getElem_cons_succ, List.getElem_cons_zero, List.setIfInBounds_toArray, List.set_cons_zero, List.set_cons_succ])
    refine wpAnyZ_take (i := 6) (v := ?_) rfl (by kernel_rfl) (by kernel_rfl) (by kernel_rfl) (by kernel_rfl) (fun _ _ _ h => h) (Or.inl ⟨by first | kernel_rfl | rfl, ?_⟩) (by assumption) ?_
    rotate_left
    · intro w hSw; (try dsimp only at hSw); go_simp; (try with_reducible rfl)
    (try simp only [Act.put, List.getElem_toArray, List.getElem_cons_succ, List.getElem_cons_zero, List.setIfInBounds_toArray, List.set_cons_zero, List.set_cons_succ])
    refine wpAnyZ_ready (i := 7) (by kernel_rfl) rfl (fun K hK => ?_)
    go_simp
    have hnI : nthI b r = some x := by unfold nthI; rw [if_neg (by omega)]; exact HX.out
    have HTH := Lib.hid (Nth_any ba b.length bc b r w2.drew (hl2.below (Below.refl _ w2).drew).sp (by omega) HSG.out.1 (by omega))
    rw [hnI] at HTH
    refine HTH.out.out.mono ?_
    rintro e w3 ⟨rfl, qq, rfl⟩
    refine hK.out _ _ (hc2) (fun hHeld => ?_)
    clear hK K
    (try simp only [Act.put, List.getElem_toArray, List.getElem_cons_succ, List.getElem_cons_zero, List.setIfInBounds_toArray, List.set_cons_zero, List.set_cons_succ])
    refine wpAnyZ_take (i := 8) (v := ?_) rfl (by kernel_rfl) (by kernel_rfl) (by kernel_rfl) (by kernel_rfl) (fun _ _ _ h => h) (Or.inl ⟨by first | kernel_rfl | rfl, ?_⟩) (by assumption) ?_
    rotate_left
    · intro w hSw; (try dsimp only at hSw); go_simp; (try with_reducible rfl)
    (try simp only [Act.put, List.getElem_toArray, List.getElem_cons_succ, List.getElem_cons_zero, List.setIfInBounds_toArray, List.set_cons_zero, List.set_cons_succ])
    refine wpAnyZ_take (i := 9) (v := ?_) rfl (by kernel_rfl) (by kernel_rfl) (by kernel_rfl) (by kernel_rfl) (fun _ _ _ h => h) (Or.inl ⟨by first | kernel_rfl | rfl, ?_⟩) (by assumption) ?_
    rotate_left
    · intro w hSw; (try dsimp only at hSw); go_simp; (try with_reducible rfl)
    (try simp only [Act.put, List.getElem_toArray, List.getElem_cons_succ, List.getElem_cons_zero, List.setIfInBounds_toArray, List.set_cons_zero, List.set_cons_succ])
    refine wpAnyZ_take (i := 11) (v := ?_) rfl (by kernel_rfl) (by kernel_rfl) (by kernel_rfl) (by kernel_rfl) (fun _ _ _ h => h) (Or.inl ⟨by first | kernel_rfl | rfl, ?_⟩) (by assumption) ?_
    rotate_left
    · intro w hSw; (try dsimp only at hSw); go_simp; (try with_reducible rfl)
    (try simp only [Act.put, List.getElem_toArray, List.getElem_cons_succ, List.getElem_cons_zero, List.setIfInBounds_toArray, List.set_cons_zero, List.set_cons_succ])
    refine wpAnyZ_take (i := 10) (v := ?_) rfl (by kernel_rfl) (by kernel_rfl) (by kernel_rfl) (by kernel_rfl) (fun _ _ _ h => h) (Or.inl ⟨by first | kernel_rfl | rfl, ?_⟩) (by assumption) ?_
    rotate_left
    · intro w hSw; (try dsimp only at hSw); go_simp; (try with_reducible rfl)
    (try simp only [Act.put, List.getElem_toArray, List.getElem_cons_succ, List.getElem_cons_zero, List.setIfInBounds_toArray, List.set_cons_zero, List.set_cons_succ])
    refine wpAnyZ_last (i := 12) rfl (by kernel_rfl) (by kernel_rfl) rfl (fun K hK => ?_)
    go_simp
    refine hK.out _ _ ?_
    have hb3 : Below wr.heap.size wr (w2.drew.drewN qq) := below_drewN (below_to HK2.out.2 (Below.refl _ w2).drew) qq
    have hB2 := HK2.out.2
    have hown2 : w2.ownsRow w.heap.size 21 1 (.slice (some ⟨w.heap.size, 0, none⟩) n n) n L := own_keep hown fun k hk => hB2.block k (hown.lt k (by rw [own_ownA]; exact hk)).2
    have hd2 : w2.cell? ⟨w.heap.size, m, none⟩ = some (L[m]) := by rw [hown2.cellAt m (by omega), List.getElem?_eq_getElem hll]
    have hf2 := hown2.frozenAt m
    have hown3 : (w2.drewN (1 + qq)).ownsRow w.heap.size 21 1 (.slice (some ⟨w.heap.size, 0, none⟩) n n) n L := own_keep hown2 fun _ _ => rfl
    obtain ⟨hown4, _⟩ := hown3.stored m (.int .i32 x)
    have HO4 := Lib.hid hown4
    have hw32 : wrap32 (optD (some x)) = x := by unfold optD wrap32; simp; omega
    have HBN : Hid (Below w.heap.size w ((w2.drewN (1 + qq)).setCell ⟨w.heap.size, m, none⟩ (.int .i32 x))) := Lib.hid ((below_drewN (below_to hb hB2) (1 + qq)).setCell (p := ⟨w.heap.size, m, none⟩) (Nat.le_refl _) _)
    generalize L[m] = u0 at hd2
    clear hb3 hK K hHeld hc2 hl2 hnI hown hb hown2 hown3 hown4 hB2
    go_wp2_with fail
    exact ⟨⟨m, q, L.set m (.int .i32 x), x :: done, by omega, rfl, rfl, hq0, hq1, HO4.out, HBN.out, HNEW⟩, by simp [intOf]⟩
end
end Go.Proofs.Ytpmhdjiacgckjaa
end
section
namespace Go.Proofs.Ytpmhdjiacgckjaa
open Go.RowKit Go.ChangeShapes Go.WideShapes Go.Deep
set_option linter.unusedVariables false
section
variable {H : Type} {enc : TypeId × Value → H} {W : World} {base : Nat} {spare : Nat → Bool} {held : Bool}
/-- what is read at type t is some a's cells, and R holds of it -/
def OpensAs (enc : TypeId × Value → H) (W : World) (base : Nat) (spare : Nat → Bool) (held : Bool) (t : TypeId) {α : Type} (f : α → List Value) (R : α → World → Prop) : Prop :=
  ∀ (fuel : Nat) (cs : List Value) (x : DataW H × List MemPlace), DataW.trod enc Try.prog W base spare held fuel t cs = some x → ∃ a, cs = f a ∧ R a W
theorem opens_int : OpensAs enc W base spare held 3 (fun z => [Value.int .i64 z]) (fun z _ => I64 z) := fun fuel cs x h => by
  obtain ⟨z, e, _, w⟩ := DataW.trod_int Try.underlying3 h
  exact ⟨z, e, I64.of_wf w⟩
theorem add_none (b off k : Nat) : (⟨b, off, none⟩ : Addr).add k = ⟨b, off + k, none⟩ := by unfold Addr.add; split <;> simp_all
theorem opens_slice {t e : TypeId} {α : Type} {size : Nat} {f : α → List Value} {R : α → World → Prop} (ht : Try.prog.underlying t = some (.slice e)) (hce : Try.prog.cellsOf e = size) (hs : 0 < size) (hf : ∀ a, (f a).length = size)
    (he : OpensAs enc W base spare held e f R) {fuel : Nat} {cs : List Value} {x : DataW H × List MemPlace} (h : DataW.trod enc Try.prog W base spare held fuel t cs = some x) :
    ∃ A L c, cs = [Value.slice A L.length c] ∧ RowsAt size f R A L W ∧ L.length ≤ c ∧ c ≤ 9223372036854775807 := by
  rcases open_slice ht h with ⟨hcs, _⟩ | ⟨b, len, cap, m, n, D, Pl, hcs, _, hl, hm, hmm, _, hc⟩
  · exact ⟨none, [], 0, hcs, RowsAt.nil_ _ _ _ _ _, Nat.le_refl _, by omega⟩
  · have hlm : len ≤ m := by rw [hmm]; split <;> omega
    unfold maxLen at hm
    rcases Nat.eq_zero_or_pos len with h0 | hpos
    · subst h0
      exact ⟨some b, [], cap, hcs, RowsAt.nil_ _ _ _ _ _, Nat.zero_le _, hm⟩
    have each : ∀ i, ∃ a : α, i < len → ((∀ j u, (f a)[j]? = some u → W.cell? (b.add (i * size + j)) = some u) ∧ R a W) := by
      intro i
      obtain ⟨cs0, h10, h20⟩ := hc 0 (by omega)
      obtain ⟨a0, e0, r0⟩ := he _ _ _ h20
      by_cases hi : i < len
      · obtain ⟨cs', h1, h2⟩ := hc i (by omega)
        rw [hce] at h1
        obtain ⟨_, hlen, hat⟩ := World.cells?_some h1
        obtain ⟨a, rfl, r⟩ := he _ _ _ h2
        refine ⟨a, fun _ => ⟨fun j u hu => ?_, r⟩⟩
        have hj : j < size := by have := (List.getElem?_eq_some_iff.1 hu).1; rwa [hf] at this
        have := hat j (by omega)
        rw [Go.Deep.add_add] at this
        rw [this, hu]
      · exact ⟨a0, fun g => absurd g hi⟩
    obtain ⟨q, hq⟩ := Classical.skolem.1 each
    have hL : ((List.range len).map q).length = len := by simp
    refine ⟨some b, (List.range len).map q, cap, by rw [hL]; exact hcs, ⟨⟨?_, fun _ => ?_⟩, fun a ha => ?_, by rw [hL]; omega⟩, by rw [hL]; exact hl, hm⟩
    · rw [hL]
      have : ∀ l : List α, (l.flatMap f).length = l.length * size := by
        intro l; induction l with
        | nil => simp
        | cons y l ih => rw [List.flatMap_cons, List.length_append, ih, hf, List.length_cons, Nat.succ_mul]; omega
      rw [this, hL]
    · obtain ⟨bb, off, spot⟩ := b
      have hu0 : ∃ u, (f (q 0))[0]? = some u := ⟨(f (q 0))[0]'(by rw [hf]; exact hs), by simp [hf, hs]⟩
      obtain ⟨u0, hu0⟩ := hu0
      have h0 := (hq 0 hpos).1 0 u0 hu0
      have hs0 : spot = none := by simpa [Addr.add] using World.cell?_spot h0
      subst hs0
      refine ⟨bb, off, rfl, fun j u hu => ?_⟩
      have hjl : j < len * size := by
        have := (List.getElem?_eq_some_iff.1 hu).1
        have h2 : ∀ l : List α, (l.flatMap f).length = l.length * size := by
          intro l; induction l with
          | nil => simp
          | cons y l ih => rw [List.flatMap_cons, List.length_append, ih, hf, List.length_cons, Nat.succ_mul]; omega
        rw [h2, hL] at this; exact this
      have hdm := Nat.div_add_mod j size
      have hdl : j / size < len := (Nat.div_lt_iff_lt_mul hs).2 hjl
      have hmod := Nat.mod_lt j hs
      have hx : ((List.range len).map q)[j / size]? = some (q (j / size)) := by simp [hdl]
      obtain ⟨u', hu'⟩ : ∃ u', (f (q (j / size)))[j % size]? = some u' := ⟨(f (q (j / size)))[j % size]'(by rw [hf]; exact hmod), by simp [hf, hmod]⟩
      have h3 := flatMap_at hf hx hu'
      rw [Nat.mul_comm, hdm] at h3
      obtain rfl : u' = u := Option.some.inj (h3.symm.trans hu)
      have := (hq _ hdl).1 _ _ hu'
      rw [Nat.mul_comm, hdm, add_none] at this
      exact this
    · obtain ⟨r, hr, rfl⟩ := List.mem_map.1 ha
      exact (hq r (List.mem_range.1 hr)).2
end
end Go.Proofs.Ytpmhdjiacgckjaa
end
section
namespace Go.Proofs.Ytpmhdjiacgckjaa
open Go.RowKit Go.ChangeShapes Go.WideShapes Go.Deep
set_option linter.unusedVariables false
set_option linter.unusedSimpArgs false
set_option maxRecDepth 100000
theorem list4 {α : Type} {l : List α} (h : l.length = 4) : ∃ a b c d, l = [a, b, c, d] := by
  match l, h with
  | [a, b, c, d], _ => exact ⟨a, b, c, d, rfl⟩
theorem list6 {α : Type} {l : List α} (h : l.length = 6) : ∃ a b c d e f, l = [a, b, c, d, e, f] := by
  match l, h with
  | [a, b, c, d, e, f], _ => exact ⟨a, b, c, d, e, f, rfl⟩
section
variable {H : Type} {enc : TypeId × Value → H} {W : World} {base : Nat} {spare : Nat → Bool} {held : Bool}
theorem opens_part : OpensAs enc W base spare held 56 partC (fun p _ => PartW p) := fun fuel cs x h => by
  obtain ⟨xs, n, _, rfl, hl, hlen, hf⟩ := DataW.trod_struct Try.underlying56 h
  rw [show Try.prog.cellsOf 56 = 4 from by kernel_rfl] at hl
  obtain ⟨c0, c1, c2, c3, rfl⟩ := list4 hl
  obtain ⟨x0, x1, x2, x3, rfl⟩ := list4 hlen
  have h0 : DataW.trod enc Try.prog W base spare held n 3 [c0] = some x0 := by have := hf 0 _ rfl; simpa [show Try.prog.cellsOf 3 = 1 from by kernel_rfl] using this
  have h1 : DataW.trod enc Try.prog W base spare held n 3 [c1] = some x1 := by have := hf 1 _ rfl; simpa [show Try.prog.cellsOf 3 = 1 from by kernel_rfl] using this
  have h2 : DataW.trod enc Try.prog W base spare held n 3 [c2] = some x2 := by have := hf 2 _ rfl; simpa [show Try.prog.cellsOf 3 = 1 from by kernel_rfl] using this
  have h3 : DataW.trod enc Try.prog W base spare held n 3 [c3] = some x3 := by have := hf 3 _ rfl; simpa [show Try.prog.cellsOf 3 = 1 from by kernel_rfl] using this
  obtain ⟨z0, e0, w0⟩ := opens_int _ _ _ h0
  obtain ⟨z1, e1, w1⟩ := opens_int _ _ _ h1
  obtain ⟨z2, e2, w2⟩ := opens_int _ _ _ h2
  obtain ⟨z3, e3, w3⟩ := opens_int _ _ _ h3
  simp only [List.cons.injEq, and_true] at e0 e1 e2 e3
  exact ⟨(z0, z1, z2, z3), by rw [e0, e1, e2, e3]; rfl, ⟨w0, w1, w2, w3⟩⟩
theorem open_parts {fuel : Nat} {cs : List Value} {x : DataW H × List MemPlace} (h : DataW.trod enc Try.prog W base spare held fuel 22 cs = some x) :
    ∃ A L c, cs = [Value.slice A L.length c] ∧ PartsAt A L W ∧ L.length ≤ c ∧ c ≤ 9223372036854775807 := opens_slice (size := 4) Try.underlying22 (by kernel_rfl) (by decide) (fun _ => rfl) opens_part h
theorem opens_term : OpensAs enc W base spare held 24 termC TermW := fun fuel cs x h => by
  obtain ⟨xs, n, _, rfl, hl, hlen, hf⟩ := DataW.trod_struct Try.underlying24 h
  rw [show Try.prog.cellsOf 24 = 6 from by kernel_rfl] at hl
  obtain ⟨c0, c1, c2, c3, c4, c5, rfl⟩ := list6 hl
  obtain ⟨x0, x1, x2, x3, x4, x5, rfl⟩ := list6 hlen
  have h0 : DataW.trod enc Try.prog W base spare held n 3 [c0] = some x0 := by have := hf 0 _ rfl; simpa [show Try.prog.cellsOf 3 = 1 from by kernel_rfl] using this
  have h1 : DataW.trod enc Try.prog W base spare held n 3 [c1] = some x1 := by have := hf 1 _ rfl; simpa [show Try.prog.cellsOf 3 = 1 from by kernel_rfl] using this
  have h2 : DataW.trod enc Try.prog W base spare held n 3 [c2] = some x2 := by have := hf 2 _ rfl; simpa [show Try.prog.cellsOf 3 = 1 from by kernel_rfl] using this
  have h3 : DataW.trod enc Try.prog W base spare held n 3 [c3] = some x3 := by have := hf 3 _ rfl; simpa [show Try.prog.cellsOf 3 = 1 from by kernel_rfl] using this
  have h4 : DataW.trod enc Try.prog W base spare held n 3 [c4] = some x4 := by have := hf 4 _ rfl; simpa [show Try.prog.cellsOf 3 = 1 from by kernel_rfl] using this
  have h5 : DataW.trod enc Try.prog W base spare held n 22 [c5] = some x5 := by have := hf 5 _ rfl; simpa [show Try.prog.cellsOf 22 = 1 from by kernel_rfl] using this
  obtain ⟨z0, e0, w0⟩ := opens_int _ _ _ h0
  obtain ⟨z1, e1, w1⟩ := opens_int _ _ _ h1
  obtain ⟨z2, e2, w2⟩ := opens_int _ _ _ h2
  obtain ⟨z3, e3, w3⟩ := opens_int _ _ _ h3
  obtain ⟨z4, e4, w4⟩ := opens_int _ _ _ h4
  obtain ⟨A5, L5, C5, e5, w5, hc5, _⟩ := open_parts h5
  simp only [List.cons.injEq, and_true] at e0 e1 e2 e3 e4 e5
  exact ⟨⟨z0, z1, z2, z3, z4, A5, C5, L5⟩, by rw [e0, e1, e2, e3, e4, e5]; rfl, ⟨⟨w0, w1, w2, w3, w4⟩, w5⟩⟩
theorem open_term {fuel : Nat} {cs : Array Value} {x : DataW H × List MemPlace} (h : DataW.trod enc Try.prog W base spare held fuel 24 cs.toList = some x) :
    ∃ b d t u s pa pc ps, cs = #[.int .i64 b, .int .i64 d, .int .i64 t, .int .i64 u, .int .i64 s, .slice pa (ps : List PartL).length pc] ∧ (I64 b ∧ I64 d ∧ I64 t ∧ I64 u ∧ I64 s) ∧ PartsAt pa ps W := by
  obtain ⟨⟨b, d, t, u, s, pa, pc, ps⟩, e, h1, h2⟩ := opens_term _ _ _ h
  refine ⟨b, d, t, u, s, pa, pc, ps, ?_, h1, h2⟩
  apply Array.ext'
  rw [e]; rfl
theorem opens_rune : OpensAs enc W base spare held 21 (fun z => [Value.int .i32 z]) (fun z _ => RuneW z) := fun fuel cs x h => by
  obtain ⟨z, e, _, w⟩ := DataW.trod_int Try.underlying21 h
  refine ⟨z, e, ?_⟩
  have := w
  simp [Lit.wf, IntKind.min, IntKind.max, IntKind.signed, IntKind.bits] at this
  exact this
theorem open_runes {fuel : Nat} {cs : List Value} {x : DataW H × List MemPlace} (h : DataW.trod enc Try.prog W base spare held fuel 27 cs = some x) :
    ∃ A L c, cs = [Value.slice A L.length c] ∧ RunesAt A L W ∧ L.length ≤ c ∧ c ≤ 9223372036854775807 := opens_slice (size := 1) Try.underlying27 (by kernel_rfl) (by decide) (fun _ => rfl) opens_rune h
end
end Go.Proofs.Ytpmhdjiacgckjaa
end
