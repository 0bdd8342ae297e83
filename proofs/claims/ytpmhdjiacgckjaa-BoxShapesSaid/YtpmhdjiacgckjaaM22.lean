/- Contract of box.Boxes. Condition: the term's parts, the guards and the set are known. -/
import Derived.Test.YtpmhdjiacgckjaaM17
import Derived.Test.YtpmhdjiacgckjaaM18
import Derived.Test.YtpmhdjiacgckjaaM19
import Derived.Test.YtpmhdjiacgckjaaM20
import Derived.Test.YtpmhdjiacgckjaaM21
section
namespace Go.Proofs.Ytpmhdjiacgckjaa
open Go.RowKit Go.Shelf
set_option linter.unusedVariables false
set_option linter.unusedSimpArgs false
attribute [local go_sem] Oper.semAt_some
def fcells (A : Option Addr) (n c : Nat) : Array Value := #[.slice none 0 0, .slice A n c, .slice none 0 0, .slice none 0 0, .slice none 0 0, .int .i64 0]
def RetBx (w0 : World) (r : Int × List (List (List Sp))) (F : World → Prop) (e : Ending) (w' : World) : Prop :=
  ∃ A R c, e = .returned (.tuple #[.slice A R.length c, .int .i64 r.1]) ∧ bodies2 R = r.2 ∧ Hid (St w0 w' (fun W => RowsX A R W ∧ F W))
def boxesX (G : List (List Sp)) (P : List Plc) : Option (List Row) → Int × List (List (List Sp))
  | none => (4, [])
  | some rows => if 4096 < rows.length then (4, []) else (0, rows.map (boxOf G P))
section
variable {w0 w : World} {F : World → Prop}
set_option maxRecDepth 100000 in
set_option maxHeartbeats 16000000 in
theorem Boxes_st (hK : Hid (St w0 w F)) {PA A GA : Option Addr} {ps : List PartL} {O : List (Item Sp)} {gl : List Sp} (hp : ∀ W, F W → PartsAt PA ps W) (ha : ∀ W, F W → LLx A O W) (hgm : ∀ W, F W → Lst GA gl W) (b d t u s : Int) (hb64 : I64 b) (hs64 : I64 s) (pc c cg : Nat) (hlo : O.length ≤ 1048576) :
    Calls Try.prog 10 #[.agg #[.int .i64 b, .int .i64 d, .int .i64 t, .int .i64 u, .int .i64 s, .slice PA ps.length pc], .slice A O.length c, .slice GA gl.length cg] w (RetBx w0 (boxesR ⟨b, d, t, u, s, ps⟩ (bodies O) gl) F) := by
  have HA := Lib.hid ha
  have HG := Lib.hid hgm
  have HPP := Lib.hid hp
  have HK1 := St.box hK [.int .i64 b, .int .i64 d, .int .i64 t, .int .i64 u, .int .i64 s, .slice PA ps.length pc] 24
  obtain ⟨v, hv⟩ : ∃ v, pB (BoxOk (O.length : Int) ⟨b, d, t, u, s, ps⟩) = v := ⟨_, rfl⟩
  have HV := Lib.hid hv
  clear ha hgm hp hv
  refine (callsIn_wide (n := 8)).1 ?_
  refine callsIn_of_wp_marks Try.func10 rfl trivial ?_ rfl
  refine wpIn_wide.2 ?_
  simp only [Try.ntmps10, List.size_toArray, List.length_cons, List.length_nil, Nat.reduceAdd, Nat.reduceSub, Array.replicate_succ, Array.replicate_zero, List.push_toArray, List.append_toArray, List.nil_append, List.cons_append]
  go_wp2_with fail
  have HKR : Hid (St w0 (w.alloc (.cells #[.int .i64 b, .int .i64 d, .int .i64 t, .int .i64 u, .int .i64 s, .slice PA ps.length pc] 24)) _) := HK1
  refine (bright_st HKR (fun _ h => HPP.out _ h.2) b d t u s hb64 hs64 pc (O.length : Int) v HV).mono ?_
  rintro e w1 ⟨rfl, HK2⟩
  clear HKR HK1
  cases v with
  | false =>
    have HNO : Hid (boxesR ⟨b, d, t, u, s, ps⟩ (bodies O) gl = (1, [])) := Lib.hid (by
      unfold boxesR
      rw [if_pos]
      rw [bodies_length]
      intro h
      have := pB_true h
      rw [HV.out] at this; cases this)
    go_wp2_with fail
    refine leaveM_nil (.tuple #[.slice none 0 0, .int .i64 1]) (by simp [results, Try.f10, go_sem]) ?_
    rw [HNO.out]
    exact ⟨none, [], 0, rfl, rfl, Lib.hid (HK2.out.weaken fun _ h => ⟨⟨Items.nil_ _ _ _, by simp⟩, h.2⟩)⟩
  | true =>
  have HOK : Hid (BoxOk (O.length : Int) ⟨b, d, t, u, s, ps⟩) := Lib.hid (by
    apply Classical.byContradiction
    intro h
    have := pB_false h
    rw [HV.out] at this; cases this)
  obtain ⟨sb, hsb⟩ : ∃ m, w1.heap.size = m := ⟨_, rfl⟩
  obtain ⟨w2, hw2⟩ : ∃ W, ((w1.alloc (.cells #[.int .i64 0, .int .i64 1114111] 52)).alloc (.cells (fcells none 0 0) 61)).alloc (.cells #[.pointer (some ⟨sb + 1, 0, none⟩)] 57) = W := ⟨_, rfl⟩
  have HS2 : Hid (w2.heap.size = sb + 3) := Lib.hid (by rw [← hw2, ← hsb]; simp)
  have HB12 : Hid (Below w1.heap.size w1 w2) := Lib.hid (by rw [← hw2]; exact (((Below.refl _ _).alloc (Nat.le_refl _) _).alloc (by simp) _).alloc (by simp; omega) _)
  have hq0 := heap_alloc_new w1 (.cells #[.int .i64 0, .int .i64 1114111] 52)
  have hq1 := heap_alloc_new (w1.alloc (.cells #[.int .i64 0, .int .i64 1114111] 52)) (.cells (fcells none 0 0) 61)
  have hq2 := heap_alloc_new ((w1.alloc (.cells #[.int .i64 0, .int .i64 1114111] 52)).alloc (.cells (fcells none 0 0) 61)) (.cells #[.pointer (some ⟨sb + 1, 0, none⟩)] 57)
  simp only [World.size_alloc] at hq1 hq2
  rw [hsb] at hq0 hq1 hq2
  have hq1' := (Below.heap_alloc _ (.cells #[.pointer (some ⟨sb + 1, 0, none⟩)] 57) (sb + 1) (by simp; omega)).trans hq1
  have hq0' := (Below.heap_alloc _ (.cells #[.pointer (some ⟨sb + 1, 0, none⟩)] 57) sb (by simp; omega)).trans ((Below.heap_alloc _ (.cells (fcells none 0 0) 61) sb (by simp; omega)).trans hq0)
  rw [hw2] at hq0' hq1' hq2
  have HQ := Lib.hid (And.intro hq0' (And.intro hq1' hq2))
  have hw2' := hw2
  unfold fcells at hw2'
  clear hq0 hq1 hq2 hq0' hq1' hw2
  go_wp2_with fail
  go_loopw [42] (fun iv wr => ∃ (i : Nat) (A2 : Option Addr) (c2 : Nat) (L : List (Item Sp)), i ≤ O.length ∧ iv = .int .i64 i ∧ L.length = i ∧ Hid (bodies L = ((bodies O).take i).map symG ∧ ∀ s ∈ bodies L, s ≠ []) ∧ Hid (GoRow (sb + 3) 26 1 hdC hdR A2 c2 L wr) ∧
    Hid (wr.heap[sb + 1]? = some (.cells (fcells A2 L.length c2) 61 (0, 0))) ∧ Hid (Only (sb + 1) none w2 wr)) (fun iv _ => O.length - (intOf iv).toNat)
  case atStart => exact ⟨0, none, 0, [], Nat.zero_le _, rfl, rfl, Lib.hid ⟨rfl, fun s hs => (by cases hs)⟩, Lib.hid (GoRow.nil_ _ _ _ _ _ _), Lib.hid HQ.out.2.1, Lib.hid (Only.refl _ _ _)⟩
  case round =>
  obtain ⟨i, A2, c2, L, hi, rfl, hLi, HL, HGR, HFB, HOW⟩ := hrel
  have hbel : Below w1.heap.size w1 wr := HB12.out.trans (HOW.out.below (B := w1.heap.size) (by omega) (by simp) (by have := HS2.out; omega))
  have HBEL := Lib.hid hbel
  have hFw := (HK2.out.step hbel).now
  clear hbel
  by_cases hlt : i < O.length
  · obtain ⟨gb, off, ba, bc, bO, rfl, hO, hbO, hc, hl⟩ := (HA.out _ hFw.2).at_ hlt
    have hsl : wr.heap[sb]? = some (.cells #[.int .i64 0, .int .i64 1114111] 52 (0, 0)) := (HOW.out.block sb (by rw [HS2.out]; omega) (by omega) (by simp)).trans HQ.out.1
    have hpl : wr.heap[sb + 1 + 1]? = some (.cells #[.pointer (some ⟨sb + 1, 0, none⟩)] 57 (0, 0)) := (HOW.out.block (sb + 1 + 1) (by rw [HS2.out]; omega) (by omega) (by simp)).trans HQ.out.2.2
    have hsz3 : sb + 3 ≤ wr.heap.size := by have := HOW.out.size; rw [HS2.out] at this; exact this
    have hsy : ∀ W, Below wr.heap.size wr W → Lst (some ⟨sb, 0, none⟩) [(0, 1114111)] W := fun W hW => by
      have hb := (hW.block sb (by omega)).trans hsl
      refine (Plain.lst (show Plain [((0 : Int), (1114111 : Int))] from plain_one (by omega) (by omega) (by omega)) ⟨rfl, fun _ => ⟨sb, 0, rfl, fun j v hv => ?_⟩⟩) W (Below.refl _ _)
      simp [spanCells] at hv
      rcases j with _ | _ | j
      · simp at hv; subst hv; simp [World.cell?, hb]
      · simp at hv; subst hv; simp [World.cell?, hb]
      · simp at hv
    have HKM : Hid (St wr wr (fun W => Lst ba bO W ∧ Lst (some ⟨sb, 0, none⟩) [(0, 1114111)] W)) := Lib.hid (St.start fun W hW => ⟨hl.below hW, hsy W hW⟩)
    obtain ⟨r, hr⟩ : ∃ r, symG bO = r := ⟨_, rfl⟩
    have HR : Hid (Rep r (fun y => Mem bO y ∧ Mem [(0, 1114111)] y)) := Lib.hid (by rw [← hr]; exact symG_rep bO)
    have HX : Hid ((bodies O)[i]? = some bO ∧ symG bO = r) := Lib.hid ⟨hbO, hr⟩
    have hii : (i : Int) < (O.length : Int) := by omega
    clear hl hsy hO hbO hr hFw
    go_wp2_with fail
    refine (Meet_stD HKM (fun _ h => h.1) (fun _ h => h.2) bc 1 HR).mono ?_
    rintro e5 w5 ⟨A5, c5, rfl, HD5, HK5, HB5⟩
    by_cases hrn : r = []
    · have HNO : Hid (boxesR ⟨b, d, t, u, s, ps⟩ (bodies O) gl = (0, [])) := Lib.hid (by
        unfold boxesR
        rw [if_neg (by rw [bodies_length]; exact fun h => h HOK.out), if_pos ⟨bO, List.mem_of_getElem? HX.out.1, by rw [HX.out.2, hrn]⟩])
      have hrl : (r.length : Int) = 0 := by rw [hrn]; rfl
      clear hrn
      go_wp2_with fail
      refine leaveM_nil (.tuple #[.slice none 0 0, .int .i64 0]) (by simp [results, Try.f10, go_sem]) ?_
      rw [HNO.out]
      exact ⟨none, [], 0, rfl, rfl, Lib.hid (((HK2.out.step HBEL.out).step HB5.out).weaken fun _ h => ⟨⟨Items.nil_ _ _ _, by simp⟩, h.2⟩)⟩
    · have hrl : ¬ (r.length : Int) = 0 := fun h => hrn (List.eq_nil_of_length_eq_zero (by omega))
      have HRN := Lib.hid hrn
      have hfb5 := (HB5.out.block (sb + 1) (by omega)).trans HFB.out
      have hpl5 := (HB5.out.block (sb + 1 + 1) (by omega)).trans hpl
      have hcp5 : w5.cell? ⟨sb + 1 + 1, 0, none⟩ = some (.pointer (some ⟨sb + 1, 0, none⟩)) := by simp [World.cell?, hpl5]
      have hcf5 : w5.cell? ⟨sb + 1, 1, none⟩ = some (.slice A2 L.length c2) := by simp [World.cell?, hfb5, fcells]
      have HG5 := Lib.hid (HGR.out.keep HB5.out.size fun k _ hl => HB5.out.block k hl)
      have HD6 : Hid (Dep (fun k => sb + 3 ≤ k ∧ some k ≠ ownA A2) w5 (hdR (A5, c5, r))) := Lib.hid (HD5.out.mono fun k hp hl => ⟨by omega, fun e => by have := (HGR.out.rlt k e.symm).2; omega⟩)
      have hz5 : sb + 3 ≤ w5.heap.size := Nat.le_trans hsz3 HB5.out.size
      obtain ⟨i0, hi0, hz0, hz1, hz2⟩ := info_parts infoHdx
      have HO5 : Hid ((w5.drew).ownsRow (sb + 3) 26 1 (.slice A2 L.length c2) L.length (L.flatMap hdC)) := Lib.hid (own_keep HG5.out.own fun _ _ => rfl)
      have hl40 : L.length < 1099511627776 := by omega
      have hlA : ∀ k, ownA A2 = some k → sb + 3 ≤ k := fun k hk => (HGR.out.rlt k hk).1
      have HLA := Lib.hid hlA
      have HFB5 := Lib.hid hfb5
      have HLI := Lib.hid hLi
      clear hrn hlA hfb5 hpl5 hpl hsl hLi
      go_wp2_with fail
      refine wp_region_ZN 10 (by kernel_rfl) (fun W => W.cell? ⟨sb + 1 + 1, 0, none⟩ = some (.pointer (some ⟨sb + 1, 0, none⟩)) ∧ W.cell? ⟨sb + 1, 1, none⟩ = some (.slice A2 L.length c2)) ⟨hcp5, hcf5⟩ (fun hHeld => ?_)
      refine wpAnyZ_take (i := 0) (v := ?_) rfl (by kernel_rfl) (by kernel_rfl) (by kernel_rfl) (by kernel_rfl) (fun _ _ _ h => h) (Or.inl ⟨by first | kernel_rfl | rfl, ?_⟩) (by assumption) ?_
      rotate_left
      · intro w hSw; (try dsimp only at hSw); go_simp; (try with_reducible rfl)
      (try simp only [Act.put, List.getElem_toArray, List.getElem_cons_succ, List.getElem_cons_zero, List.setIfInBounds_toArray, List.set_cons_zero, List.set_cons_succ])
      refine wpAnyZ_take (i := 1) (v := ?_) rfl (by kernel_rfl) (by kernel_rfl) (by kernel_rfl) (by kernel_rfl) (fun _ _ _ h => h) (Or.inl ⟨by first | kernel_rfl | rfl, ?_⟩) (by assumption) ?_
      rotate_left
      · intro w hSw; (try dsimp only at hSw); go_simp; (try with_reducible rfl)
      (try simp only [Act.put, List.getElem_toArray, List.getElem_cons_succ, List.getElem_cons_zero, List.setIfInBounds_toArray, List.set_cons_zero, List.set_cons_succ])
      refine wpAnyZ_take (i := 2) (v := ?_) rfl (by kernel_rfl) (by kernel_rfl) (by kernel_rfl) (by kernel_rfl) (fun _ _ _ h => h) (Or.inl ⟨by first | kernel_rfl | rfl, ?_⟩) (by assumption) ?_
      rotate_left
      · intro w hSw; (try dsimp only at hSw); go_simp; (try with_reducible rfl)
      (try simp only [Act.put, List.getElem_toArray, List.getElem_cons_succ, List.getElem_cons_zero, List.setIfInBounds_toArray, List.set_cons_zero, List.set_cons_succ])
      refine wpAnyZ_take (i := 3) (v := ?_) rfl (by kernel_rfl) (by kernel_rfl) (by kernel_rfl) (by kernel_rfl) (fun _ _ _ h => h) (Or.inl ⟨by first | kernel_rfl | rfl, ?_⟩) (by assumption) ?_
      rotate_left
      · intro w hSw; (try dsimp only at hSw); go_simp; (try with_reducible rfl)
      (try simp only [Act.put, List.getElem_toArray, List.getElem_cons_succ, List.getElem_cons_zero, List.setIfInBounds_toArray, List.set_cons_zero, List.set_cons_succ])
      refine wpAnyZ_take (i := 4) (v := ?_) rfl (by kernel_rfl) (by kernel_rfl) (by kernel_rfl) (by kernel_rfl) (fun _ _ _ h => h) (Or.inl ⟨by first | kernel_rfl | rfl, ?_⟩) (by assumption) ?_
      rotate_left
      · intro w hSw; (try dsimp only at hSw); go_simp; (try with_reducible rfl)
      (try simp only [Act.put, List.getElem_toArray, List.getElem_cons_succ, List.getElem_cons_zero, List.setIfInBounds_toArray, List.set_cons_zero, List.set_cons_succ])
      refine wpAnyZ_take (i := 5) (v := ?_) rfl (by kernel_rfl) (by kernel_rfl) (by kernel_rfl) (by kernel_rfl) (fun _ _ _ h => h) (Or.inl ⟨by first | kernel_rfl | rfl, ?_⟩) (by assumption) ?_
      rotate_left
      · intro w hSw; (try dsimp only at hSw); go_simp; (try with_reducible rfl)
      (try simp only [Act.put, List.getElem_toArray, List.getElem_cons_succ, List.getElem_cons_zero, List.setIfInBounds_toArray, List.set_cons_zero, List.set_cons_succ])
      refine wpAnyZ_ready (i := 6) (by kernel_rfl) rfl (fun K hK => ?_)
      go_simp
      refine hK.out _ _ (⟨cellAlloc _ hcp5, cellAlloc _ hcf5⟩) (fun hHeld => ?_)
      clear hK K
      (try simp only [Act.put, List.getElem_toArray, List.getElem_cons_succ, List.getElem_cons_zero, List.setIfInBounds_toArray, List.set_cons_zero, List.set_cons_succ])
      refine wpAnyZ_ready (i := 7) (by kernel_rfl) rfl (fun K hK => ?_)
      refine step_pushG (w0 := w5.drew) rfl _ _ 25 rfl (sb + 3) 26 i0 _ 1 24 Try.underlying25 hi0 hz0 hz1 hz2 rfl (by decide) HO5.out rfl [.slice A5 r.length c5] 26 rfl rfl (by simp [Value.oneCell']) hl40 (by decide) hz5 ?_
      intro A9 c9 w9 HO9 HG9 HN9
      have hcp9 := HG9.out.cell (cellAlloc _ (show w5.drew.cell? ⟨sb + 1 + 1, 0, none⟩ = _ from hcp5)) (fun e => by have h1 := HLA.out _ e.symm; have h2 : sb + 3 ≤ sb + 1 + 1 := h1; omega)
      have hcf9 := HG9.out.cell (cellAlloc _ (show w5.drew.cell? ⟨sb + 1, 1, none⟩ = _ from hcf5)) (fun e => by have h1 := HLA.out _ e.symm; have h2 : sb + 3 ≤ sb + 1 := h1; omega)
      have hfb9 : w9.heap[sb + 1]? = some (.cells (fcells A2 L.length c2) 61 (0, 0)) := (HG9.out.block (sb + 1) (by simp; omega) (fun e => by have := HLA.out _ e.symm; omega)).trans ((Below.heap_alloc _ _ _ (by simp; omega)).trans HFB5.out)
      have hff9 : w9.frozen? ⟨sb + 1, 1, none⟩ = false := by simp [World.frozen?, hfb9]
      refine hK.out _ _ (⟨hcp9, hcf9⟩) (fun hHeld => ?_)
      clear hK K
      (try simp only [Act.put, List.getElem_toArray, List.getElem_cons_succ, List.getElem_cons_zero, List.setIfInBounds_toArray, List.set_cons_zero, List.set_cons_succ])
      refine wpAnyZ_ready (i := 8) (by kernel_rfl) rfl (fun K hK => ?_)
      go_simp
      refine hK.out _ _ (⟨hcp9, hcf9⟩) (fun hHeld => ?_)
      clear hK K
      (try simp only [Act.put, List.getElem_toArray, List.getElem_cons_succ, List.getElem_cons_zero, List.setIfInBounds_toArray, List.set_cons_zero, List.set_cons_succ])
      refine wpAnyZ_take (i := 9) (v := ?_) rfl (by kernel_rfl) (by kernel_rfl) (by kernel_rfl) (by kernel_rfl) (fun _ _ _ h => h) (Or.inl ⟨by first | kernel_rfl | rfl, ?_⟩) (by assumption) ?_
      rotate_left
      · intro w hSw; (try dsimp only at hSw); go_simp; (try with_reducible rfl)
      (try simp only [Act.put, List.getElem_toArray, List.getElem_cons_succ, List.getElem_cons_zero, List.setIfInBounds_toArray, List.set_cons_zero, List.set_cons_succ])
      have HGD : Hid (GoRow (sb + 3) 26 1 hdC hdR A2 c2 L w5.drew) := Lib.hid (HG5.out.keep (Nat.le_refl _) fun k _ hl => rfl)
      have HGN := Lib.hid (HGD.out.push (x := (A5, c5, r)) HO9.out HG9.out HN9.out (HD6.out.step (fun _ _ _ => rfl) (Nat.le_refl _) (fun k hp _ => hp)))
      have HFB9 := Lib.hid hfb9
      have HO59 : Hid (Only (sb + 1) none w2 w9) := Lib.hid ((((HOW.out.trans (Only.of_below HB5.out) (Newer.refl _ _)).drewN 1).alloc _).grown HG9.out (by
        rcases hA2 : ownA A2 with _ | g
        · exact .inl rfl
        · exact .inr ⟨g, rfl, by rw [HS2.out]; exact HLA.out g hA2⟩))
      clear hfb9
      refine wpAnyZ_last (i := 10) rfl (by kernel_rfl) (by kernel_rfl) rfl (fun K hK => ?_)
      go_simp
      refine hK.out _ _ ?_
      refine NoPanic.normal ?_
      clear hK K hHeld hcp5 hcf5 hcp9 hcf9 hff9
      go_wp2_with fail
      exact ⟨⟨i + 1, A9, c9, L ++ [(A5, c5, r)], by omega, by go_num, by rw [List.length_append, HLI.out]; rfl, Lib.hid ⟨by rw [bodies_append, HL.out.1, take_snoc? HX.out.1, List.map_append]; simp [bodies, HX.out.2], fun s hs => by
          rw [bodies_append] at hs
          rcases List.mem_append.1 hs with h | h
          · exact HL.out.2 s h
          · have : s = r := by simpa [bodies] using h
            rw [this]; exact HRN.out⟩, Lib.hid (HGN.out.set _ _ _ (by omega)), Lib.hid (by
          rw [heap_setCell_same w9 (sb + 1) 1 _ 61 _ HFB9.out]
          simp [fcells]), Lib.hid (HO59.out.setCell 1 _)⟩, by simp [intOf]; omega⟩
  · obtain rfl : i = O.length := by omega
    have HLI := Lib.hid hLi
    clear hLi
    have hdd : decide ((O.length : Int) < (O.length : Int)) = false := by simp
    have HGS : Hid (bodies L = (bodies O).map symG) := Lib.hid (by rw [HL.out.1, List.take_of_length_le (by rw [bodies_length]; exact Nat.le_refl _)])
    have hbx := hFw.1
    have q0 : wr.cell? ⟨w.heap.size, 0, none⟩ = some (.int .i64 b) := hbx 0 _ rfl
    have q1 : wr.cell? ⟨w.heap.size, 1, none⟩ = some (.int .i64 d) := hbx 1 _ rfl
    have q2 : wr.cell? ⟨w.heap.size, 2, none⟩ = some (.int .i64 t) := hbx 2 _ rfl
    have q3 : wr.cell? ⟨w.heap.size, 3, none⟩ = some (.int .i64 u) := hbx 3 _ rfl
    have hsl : wr.heap[sb]? = some (.cells #[.int .i64 0, .int .i64 1114111] 52 (0, 0)) := (HOW.out.block sb (by rw [HS2.out]; omega) (by omega) (by simp)).trans HQ.out.1
    have hsy : ∀ W, Below wr.heap.size wr W → Lst (some ⟨sb, 0, none⟩) [(0, 1114111)] W := fun W hW => by
      have hb := (hW.block sb (Array.getElem?_eq_some_iff.1 hsl).1).trans hsl
      refine (Plain.lst (show Plain [((0 : Int), (1114111 : Int))] from plain_one (by omega) (by omega) (by omega)) ⟨rfl, fun _ => ⟨sb, 0, rfl, fun j v hv => ?_⟩⟩) W (Below.refl _ _)
      simp [spanCells] at hv
      rcases j with _ | _ | j
      · simp at hv; subst hv; simp [World.cell?, hb]
      · simp at hv; subst hv; simp [World.cell?, hb]
      · simp at hv
    obtain ⟨r1, hr1⟩ : ∃ r, Rep r (fun y => -1073741824 ≤ y ∧ y ≤ 1073741824 ∧ Mem gl (y - -b)) := rep_all _ fun x hx => ⟨hx.1, hx.2.1⟩
    obtain ⟨r2, hr2⟩ : ∃ r, Rep r (PreS d t u [(0, 1114111)] r1) := rep_all _ fun x hx => by have := hx.2.2; omega
    obtain ⟨r3, hr3⟩ : ∃ r, Rep r (fun x => -1073741824 ≤ x ∧ x ≤ 1073741824 ∧ Mem r2 (x - -s)) := rep_all _ fun x hx => ⟨hx.1, hx.2.1⟩
    have HW3 : Hid (wantB b d t u s gl = r3) := Lib.hid (by unfold wantB; rw [plL_eq hr1, plL_eq hr2, plL_eq hr3])
    have HR1 := Lib.hid hr1
    have HR2 := Lib.hid hr2
    have HR3 := Lib.hid hr3
    have HK3 : Hid (St wr wr (fun W => Lst (some ⟨sb, 0, none⟩) [(0, 1114111)] W ∧ BoxC w.heap.size [.int .i64 b, .int .i64 d, .int .i64 t, .int .i64 u, .int .i64 s, .slice PA ps.length pc] W ∧ F W)) := Lib.hid (St.start ((HK2.out.step HBEL.out).add (Below.refl _ _) hsy).1)
    have hbs : (-1114111 ≤ b ∧ b ≤ 1114111) ∧ (-1114111 ≤ s ∧ s ≤ 1114111) := ⟨HOK.out.2.1.1, HOK.out.2.1.2.1⟩
    clear hr1 hr2 hr3 hsy hsl hbx hFw
    go_wp2_with fail
    refine wp_region_ZN 14 (by kernel_rfl) (fun W => W.cell? ⟨w.heap.size, 0, none⟩ = some (.int .i64 b) ∧ W.cell? ⟨w.heap.size, 1, none⟩ = some (.int .i64 d) ∧ W.cell? ⟨w.heap.size, 2, none⟩ = some (.int .i64 t) ∧ W.cell? ⟨w.heap.size, 3, none⟩ = some (.int .i64 u)) ⟨q0, q1, q2, q3⟩ (fun hHeld => ?_)
    refine wpAnyZ_take (i := 0) (v := ?_) rfl (by kernel_rfl) (by kernel_rfl) (by kernel_rfl) (by kernel_rfl) (fun _ _ _ h => h) (Or.inl ⟨by first | kernel_rfl | rfl, ?_⟩) (by assumption) ?_
    rotate_left
    · intro w hSw; (try dsimp only at hSw); go_simp; (try with_reducible rfl)
    (try simp only [Act.put, List.getElem_toArray, List.getElem_cons_succ, List.getElem_cons_zero, List.setIfInBounds_toArray, List.set_cons_zero, List.set_cons_succ])
    refine wpAnyZ_take (i := 1) (v := ?_) rfl (by kernel_rfl) (by kernel_rfl) (by kernel_rfl) (by kernel_rfl) (fun _ _ _ h => h) (Or.inl ⟨by first | kernel_rfl | rfl, ?_⟩) (by assumption) ?_
    rotate_left
    · intro w hSw; (try dsimp only at hSw); go_simp; (try with_reducible rfl)
    (try simp only [Act.put, List.getElem_toArray, List.getElem_cons_succ, List.getElem_cons_zero, List.setIfInBounds_toArray, List.set_cons_zero, List.set_cons_succ])
    refine wpAnyZ_take (i := 2) (v := ?_) rfl (by kernel_rfl) (by kernel_rfl) (by kernel_rfl) (by kernel_rfl) (fun _ _ _ h => h) (Or.inl ⟨by first | kernel_rfl | rfl, ?_⟩) (by assumption) ?_
    rotate_left
    · intro w hSw; (try dsimp only at hSw); go_simp; (try with_reducible rfl)
    (try simp only [Act.put, List.getElem_toArray, List.getElem_cons_succ, List.getElem_cons_zero, List.setIfInBounds_toArray, List.set_cons_zero, List.set_cons_succ])
    refine wpAnyZ_take (i := 3) (v := ?_) rfl (by kernel_rfl) (by kernel_rfl) (by kernel_rfl) (by kernel_rfl) (fun _ _ _ h => h) (Or.inl ⟨by first | kernel_rfl | rfl, ?_⟩) (by assumption) ?_
    rotate_left
    · intro w hSw; (try dsimp only at hSw); go_simp; (try with_reducible rfl)
    (try simp only [Act.put, List.getElem_toArray, List.getElem_cons_succ, List.getElem_cons_zero, List.setIfInBounds_toArray, List.set_cons_zero, List.set_cons_succ])
    refine wpAnyZ_take (i := 4) (v := ?_) rfl (by kernel_rfl) (by kernel_rfl) (by kernel_rfl) (by kernel_rfl) (fun _ _ _ h => h) (Or.inl ⟨by first | kernel_rfl | rfl, ?_⟩) (by assumption) ?_
    rotate_left
    · intro w hSw; (try dsimp only at hSw); go_simp; (try with_reducible rfl)
    (try simp only [Act.put, List.getElem_toArray, List.getElem_cons_succ, List.getElem_cons_zero, List.setIfInBounds_toArray, List.set_cons_zero, List.set_cons_succ])
    refine wpAnyZ_take (i := 5) (v := ?_) rfl (by kernel_rfl) (by kernel_rfl) (by kernel_rfl) (by kernel_rfl) (fun _ _ _ h => h) (Or.inl ⟨by first | kernel_rfl | rfl, ?_⟩) (by assumption) ?_
    rotate_left
    · intro w hSw; (try dsimp only at hSw); go_simp; (try with_reducible rfl)
    (try simp only [Act.put, List.getElem_toArray, List.getElem_cons_succ, List.getElem_cons_zero, List.setIfInBounds_toArray, List.set_cons_zero, List.set_cons_succ])
    refine wpAnyZ_take (i := 6) (v := ?_) rfl (by kernel_rfl) (by kernel_rfl) (by kernel_rfl) (by kernel_rfl) (fun _ _ _ h => h) (Or.inl ⟨by first | kernel_rfl | rfl, ?_⟩) (by assumption) ?_
    rotate_left
    · intro w hSw; (try dsimp only at hSw); go_simp; (try with_reducible rfl)
    (try simp only [Act.put, List.getElem_toArray, List.getElem_cons_succ, List.getElem_cons_zero, List.setIfInBounds_toArray, List.set_cons_zero, List.set_cons_succ])
    refine wpAnyZ_take (i := 7) (v := ?_) rfl (by kernel_rfl) (by kernel_rfl) (by kernel_rfl) (by kernel_rfl) (fun _ _ _ h => h) (Or.inl ⟨by first | kernel_rfl | rfl, ?_⟩) (by assumption) ?_
    rotate_left
    · intro w hSw; (try dsimp only at hSw); go_simp; (try with_reducible rfl)
    (try simp only [Act.put, List.getElem_toArray, List.getElem_cons_succ, List.getElem_cons_zero, List.setIfInBounds_toArray, List.set_cons_zero, List.set_cons_succ])
    refine wpAnyZ_take (i := 8) (v := ?_) rfl (by kernel_rfl) (by kernel_rfl) (by kernel_rfl) (by kernel_rfl) (fun _ _ _ h => h) (Or.inl ⟨by first | kernel_rfl | rfl, ?_⟩) (by assumption) ?_
    rotate_left
    · intro w hSw; (try dsimp only at hSw); go_simp; (try with_reducible rfl)
    (try simp only [Act.put, List.getElem_toArray, List.getElem_cons_succ, List.getElem_cons_zero, List.setIfInBounds_toArray, List.set_cons_zero, List.set_cons_succ])
    refine wpAnyZ_take (i := 9) (v := ?_) rfl (by kernel_rfl) (by kernel_rfl) (by kernel_rfl) (by kernel_rfl) (fun _ _ _ h => h) (Or.inl ⟨by first | kernel_rfl | rfl, ?_⟩) (by assumption) ?_
    rotate_left
    · intro w hSw; (try dsimp only at hSw); go_simp; (try with_reducible rfl)
    (try simp only [Act.put, List.getElem_toArray, List.getElem_cons_succ, List.getElem_cons_zero, List.setIfInBounds_toArray, List.set_cons_zero, List.set_cons_succ])
    refine wpAnyZ_take (i := 10) (v := ?_) rfl (by kernel_rfl) (by kernel_rfl) (by kernel_rfl) (by kernel_rfl) (fun _ _ _ h => h) (Or.inl ⟨by first | kernel_rfl | rfl, ?_⟩) (by assumption) ?_
    rotate_left
    · intro w hSw; (try dsimp only at hSw); go_simp; (try with_reducible rfl)
    (try simp only [Act.put, List.getElem_toArray, List.getElem_cons_succ, List.getElem_cons_zero, List.setIfInBounds_toArray, List.set_cons_zero, List.set_cons_succ])
    refine wpAnyZ_take (i := 11) (v := ?_) rfl (by kernel_rfl) (by kernel_rfl) (by kernel_rfl) (by kernel_rfl) (fun _ _ _ h => h) (Or.inl ⟨by first | kernel_rfl | rfl, ?_⟩) (by assumption) ?_
    rotate_left
    · intro w hSw; (try dsimp only at hSw); go_simp; (try with_reducible rfl)
    (try simp only [Act.put, List.getElem_toArray, List.getElem_cons_succ, List.getElem_cons_zero, List.setIfInBounds_toArray, List.set_cons_zero, List.set_cons_succ])
    refine wpAnyZ_ready (i := 12) (by kernel_rfl) rfl (fun K hK => ?_)
    go_simp
    rw [show IntKind.i64.wrap (-b) = -b from IntWalk.i64_in (-b) (by omega)]
    refine (Move_st (Lib.hid (HK3.out.step ((Below.refl _ wr).drew))) (fun _ h => HG.out _ h.2.2) cg HR1).mono ?_
    rintro e w4 ⟨A4, c4, rfl, HK4⟩
    have hb4 := HK4.out.now.2.2.1
    refine hK.out _ _ (⟨hb4 0 _ rfl, hb4 1 _ rfl, hb4 2 _ rfl, hb4 3 _ rfl⟩) (fun hHeld => ?_)
    clear hK K
    (try simp only [Act.put, List.getElem_toArray, List.getElem_cons_succ, List.getElem_cons_zero, List.setIfInBounds_toArray, List.set_cons_zero, List.set_cons_succ])
    refine wpAnyZ_ready (i := 13) (by kernel_rfl) rfl (fun K hK => ?_)
    go_simp
    refine (Pre_st HK4 (fun _ h => h.2.1) (fun _ h => h.1) 1 c4 0 d t u HR2).mono ?_
    rintro e w5 ⟨A5, c5, rfl, HK5⟩
    have hb5 := HK5.out.now.2.2.2.1
    refine hK.out _ _ (⟨hb5 0 _ rfl, hb5 1 _ rfl, hb5 2 _ rfl, hb5 3 _ rfl⟩) (fun hHeld => ?_)
    clear hK K
    (try simp only [Act.put, List.getElem_toArray, List.getElem_cons_succ, List.getElem_cons_zero, List.setIfInBounds_toArray, List.set_cons_zero, List.set_cons_succ])
    refine wpAnyZ_last (i := 14) rfl (by kernel_rfl) (by kernel_rfl) rfl (fun K hK => ?_)
    go_simp
    refine hK.out _ _ ?_
    refine NoPanic.normal ?_
    clear hK K hHeld hb4 hb5 q0 q1 q2 q3
    have hb5 := HK5.out.now.2.2.2.1
    have q4 : w5.cell? ⟨w.heap.size, 4, none⟩ = some (.int .i64 s) := hb5 4 _ rfl
    have hszr : sb + 3 ≤ wr.heap.size := by have := HOW.out.size; rw [HS2.out] at this; exact this
    have hplr : wr.heap[sb + 1 + 1]? = some (.cells #[.pointer (some ⟨sb + 1, 0, none⟩)] 57 (0, 0)) := (HOW.out.block (sb + 1 + 1) (by rw [HS2.out]; omega) (by omega) (by simp)).trans HQ.out.2.2
    have HPLR := Lib.hid hplr
    have hpc : ∀ {W : World}, Below wr.heap.size wr W → W.cell? ⟨sb + 1 + 1, 0, none⟩ = some (.pointer (some ⟨sb + 1, 0, none⟩)) := fun hW => by
      have h := (hW.block (sb + 1 + 1) (by omega)).trans HPLR.out
      simp [World.cell?, h]
    have hp5 := hpc HK5.out.2
    have HPC : Hid (∀ W : World, Below wr.heap.size wr W → W.cell? ⟨sb + 1 + 1, 0, none⟩ = some (.pointer (some ⟨sb + 1, 0, none⟩))) := Lib.hid fun W h => hpc h
    clear hb5 hplr hpc
    go_wp2_with fail
    refine wp_region_ZN 8 (by kernel_rfl) (fun W => W.cell? ⟨sb + 1 + 1, 0, none⟩ = some (.pointer (some ⟨sb + 1, 0, none⟩)) ∧ W.cell? ⟨w.heap.size, 4, none⟩ = some (.int .i64 s)) ⟨hp5, q4⟩ (fun hHeld => ?_)
    refine wpAnyZ_take (i := 0) (v := ?_) rfl (by kernel_rfl) (by kernel_rfl) (by kernel_rfl) (by kernel_rfl) (fun _ _ _ h => h) (Or.inl ⟨by first | kernel_rfl | rfl, ?_⟩) (by assumption) ?_
    rotate_left
    · intro w hSw; (try dsimp only at hSw); go_simp; (try with_reducible rfl)
    (try simp only [Act.put, List.getElem_toArray, List.getElem_cons_succ, List.getElem_cons_zero, List.setIfInBounds_toArray, List.set_cons_zero, List.set_cons_succ])
    refine wpAnyZ_take (i := 1) (v := ?_) rfl (by kernel_rfl) (by kernel_rfl) (by kernel_rfl) (by kernel_rfl) (fun _ _ _ h => h) (Or.inl ⟨by first | kernel_rfl | rfl, ?_⟩) (by assumption) ?_
    rotate_left
    · intro w hSw; (try dsimp only at hSw); go_simp; (try with_reducible rfl)
    (try simp only [Act.put, List.getElem_toArray, List.getElem_cons_succ, List.getElem_cons_zero, List.setIfInBounds_toArray, List.set_cons_zero, List.set_cons_succ])
    refine wpAnyZ_take (i := 2) (v := ?_) rfl (by kernel_rfl) (by kernel_rfl) (by kernel_rfl) (by kernel_rfl) (fun _ _ _ h => h) (Or.inl ⟨by first | kernel_rfl | rfl, ?_⟩) (by assumption) ?_
    rotate_left
    · intro w hSw; (try dsimp only at hSw); go_simp; (try with_reducible rfl)
    (try simp only [Act.put, List.getElem_toArray, List.getElem_cons_succ, List.getElem_cons_zero, List.setIfInBounds_toArray, List.set_cons_zero, List.set_cons_succ])
    refine wpAnyZ_take (i := 3) (v := ?_) rfl (by kernel_rfl) (by kernel_rfl) (by kernel_rfl) (by kernel_rfl) (fun _ _ _ h => h) (Or.inl ⟨by first | kernel_rfl | rfl, ?_⟩) (by assumption) ?_
    rotate_left
    · intro w hSw; (try dsimp only at hSw); go_simp; (try with_reducible rfl)
    (try simp only [Act.put, List.getElem_toArray, List.getElem_cons_succ, List.getElem_cons_zero, List.setIfInBounds_toArray, List.set_cons_zero, List.set_cons_succ])
    refine wpAnyZ_take (i := 4) (v := ?_) rfl (by kernel_rfl) (by kernel_rfl) (by kernel_rfl) (by kernel_rfl) (fun _ _ _ h => h) (Or.inl ⟨by first | kernel_rfl | rfl, ?_⟩) (by assumption) ?_
    rotate_left
    · intro w hSw; (try dsimp only at hSw); go_simp; (try with_reducible rfl)
    (try simp only [Act.put, List.getElem_toArray, List.getElem_cons_succ, List.getElem_cons_zero, List.setIfInBounds_toArray, List.set_cons_zero, List.set_cons_succ])
    refine wpAnyZ_ready (i := 5) (by kernel_rfl) rfl (fun K hK => ?_)
    go_simp
    rw [show IntKind.i64.wrap (-s) = -s from IntWalk.i64_in (-s) (by omega)]
    refine (Move_stN (Lib.hid (HK5.out.step ((Below.refl _ w5).drew))) (fun _ h => h.1) c5 HR3).mono ?_
    rintro e w6 ⟨A6, c6, rfl, HO6, HK6, HB6⟩
    have hB6 := HK6.out.2
    have hp6 := HPC.out _ hB6
    refine hK.out _ _ (⟨hp6, HK6.out.now.2.2.2.2.1 4 _ rfl⟩) (fun hHeld => ?_)
    clear hK K
    (try simp only [Act.put, List.getElem_toArray, List.getElem_cons_succ, List.getElem_cons_zero, List.setIfInBounds_toArray, List.set_cons_zero, List.set_cons_succ])
    refine wpAnyZ_ready (i := 6) (by kernel_rfl) rfl (fun K hK => ?_)
    go_simp
    refine hK.out _ _ (⟨hp6, HK6.out.now.2.2.2.2.1 4 _ rfl⟩) (fun hHeld => ?_)
    clear hK K
    (try simp only [Act.put, List.getElem_toArray, List.getElem_cons_succ, List.getElem_cons_zero, List.setIfInBounds_toArray, List.set_cons_zero, List.set_cons_succ])
    refine wpAnyZ_take (i := 7) (v := ?_) rfl (by kernel_rfl) (by kernel_rfl) (by kernel_rfl) (by kernel_rfl) (fun _ _ _ h => h) (Or.inl ⟨by first | kernel_rfl | rfl, ?_⟩) (by assumption) ?_
    rotate_left
    · intro w hSw; (try dsimp only at hSw); go_simp; (try with_reducible rfl)
    (try simp only [Act.put, List.getElem_toArray, List.getElem_cons_succ, List.getElem_cons_zero, List.setIfInBounds_toArray, List.set_cons_zero, List.set_cons_succ])
    have hfb6 := (hB6.block (sb + 1) (by omega)).trans HFB.out
    have hcf6 : w6.cell? ⟨sb + 1, 0, none⟩ = some (.slice none 0 0) := by simp [World.cell?, hfb6, fcells]
    have hff6 : w6.frozen? ⟨sb + 1, 0, none⟩ = false := by simp [World.frozen?, hfb6]
    have HFB6 := Lib.hid hfb6
    have HB06 := Lib.hid hB6
    clear hfb6 hB6
    refine wpAnyZ_last (i := 8) rfl (by kernel_rfl) (by kernel_rfl) rfl (fun K hK => ?_)
    go_simp
    refine hK.out _ _ ?_
    refine NoPanic.normal ?_
    clear hK K hHeld hp5 hp6 q4 hcf6 hff6
    obtain ⟨w7, hw7⟩ : ∃ W, w6.setCell ⟨sb + 1, 0, none⟩ (.slice A6 r3.length c6) = W := ⟨_, rfl⟩
    have HO7 : Hid (Only (sb + 1) none w6 w7) := Lib.hid (by rw [← hw7]; exact (Only.refl (sb + 1) none w6).setCell 0 _)
    have HS7 : Hid (w7.heap.size = w6.heap.size) := Lib.hid (by rw [← hw7]; simp)
    have HF7 : Hid (w7.heap[sb + 1]? = some (.cells #[.slice A6 r3.length c6, .slice A2 L.length c2, .slice none 0 0, .slice none 0 0, .slice none 0 0, .int .i64 0] 61 (0, 0))) := Lib.hid (by
      rw [← hw7, heap_setCell_same w6 (sb + 1) 0 _ 61 _ HFB6.out]; simp [fcells])
    have hB1 := HB06.out.size
    have HBF7 : Hid (Below w1.heap.size w1 w7) := Lib.hid ((HBEL.out.trans (HB06.out.mono HBEL.out.size)).trans (HO7.out.below (B := w1.heap.size) (by omega) (by simp) (by have := HBEL.out.size; omega)))
    have HN7 : Hid (BoxC w.heap.size [.int .i64 b, .int .i64 d, .int .i64 t, .int .i64 u, .int .i64 s, .slice PA ps.length pc] w7 ∧ F w7) := Lib.hid (HK2.out.1 _ HBF7.out)
    have q5 : w7.cell? ⟨w.heap.size, 5, none⟩ = some (.slice PA ps.length pc) := HN7.out.1 5 _ rfl
    have HP7 : Hid (PartsAt PA ps w7) := Lib.hid (HPP.out _ HN7.out.2)
    have HPT7 : Hid (w7.cell? ⟨sb + 1 + 1, 0, none⟩ = some (.pointer (some ⟨sb + 1, 0, none⟩))) := Lib.hid (HO7.out.cell (HPC.out _ HB06.out) (by show sb + 1 + 1 ≠ sb + 1; omega))
    rw [hw7]
    clear hw7
    go_wp2_with fail
    refine (Backward_any w7 PA ps.length pc).mono ?_
    rintro e w8 ⟨rfl, hw8⟩
    have HS8 : Hid (w8.heap.size = w7.heap.size + 1) := Lib.hid (by rw [hw8]; simp)
    have HB8 : Hid (Below w7.heap.size w7 w8) := Lib.hid (by rw [hw8]; exact (Below.refl _ _).alloc (Nat.le_refl _) _)
    have hcB : w8.cell? ⟨w7.heap.size, 0, none⟩ = some (.slice PA ps.length pc) := by rw [hw8]; exact (cellNew w7 (.slice PA ps.length pc) 22).1
    obtain ⟨B, hBe⟩ : ∃ B, w7.heap.size = B := ⟨_, rfl⟩
    have hsz7 : sb + 3 ≤ w7.heap.size := by rw [HS7.out]; omega
    have hwsb : w.heap.size < sb := by have := lt_of_cell (HK2.out.now.1 0 _ rfl); omega
    have hPab : 0 < ps.length → ∀ b, (PA.map (·.block)) = some b → b < sb + 1 := fun hps b hb => by
      obtain ⟨g, o, p, hA, _, _, hc, _⟩ := (HPP.out _ hK.out.now).at_ (j := 0) (by omega)
      rw [hA] at hb
      injection hb with hb
      have := lt_of_cell hc
      simp only at hb this
      omega
    rw [hBe] at hcB hsz7 ⊢
    have hp4 : ps.length ≤ 4 := HOK.out.2.1.2.2.2.2
    have hp16 : ps.length ≤ 64 := by omega
    have HSQ := Lib.hid (back_stops Fence.wide 7 trivial rfl (by omega) (sb + 2) B pc (OFb (sb + 1) w8.heap.size) (oFb_on _ _ _) PA ps (by omega) w8 (by rw [HS8.out, hBe]; omega) hcB (by rintro (h | h) <;> (try rw [HS8.out] at h) <;> omega) (HP7.out.below HB8.out) (fun hps b hb => by have h1 := hPab hps b hb; rintro (h | h) <;> (try rw [HS8.out] at h) <;> omega))
    have HM8 : Hid (PlM (sb + 1) w8.heap.size (.slice A6 r3.length c6) (.slice A2 L.length c2) none 0 none 0 [] [] w8) := Lib.hid (PlM.start ((HB8.out.block (sb + 1) (by omega)).trans HF7.out))
    clear hw8 hcB hPab
    go_wp2_with fail
    have HPT8 : Hid (w8.cell? ⟨sb + 1 + 1, 0, none⟩ = some (.pointer (some ⟨sb + 1, 0, none⟩))) := Lib.hid ((HB8.out.cell (lt_of_cell HPT7.out)).trans HPT7.out)
    obtain ⟨m, hm⟩ : ∃ m, w8.heap.size = m := ⟨_, rfl⟩
    have HMM := Lib.hid hm
    have hsm : sb + 3 ≤ m := by rw [← hm, HS8.out]; omega
    go_wp2_with fail
    refine wp_rangeFuncB (gf := 52) (lb := #[.pointer (some ⟨B, 0, none⟩)]) rfl (enters_of Try.func52 (by kernel_rfl) rfl) HSQ.out kpO_t (kpO_b (oFb_on (sb + 2) _ _) (by omega)) (fun _ => rfl)
      (fun pre W => PlI (sb + 1) w8.heap.size (.slice A6 r3.length c6) (.slice A2 L.length c2) w8 (pre.map (·.1.2)) W)
      (fun _ _ _ => False)
      (PlI.own _ (Nat.le_refl _)) (fun _ _ _ _ _ h _ _ => h)
      ⟨none, 0, none, 0, [], HM8.out, Only.refl _ _ _⟩
      ?act (fun x b W => PlA (sb + 1) w8.heap.size (.slice A6 r3.length c6) (.slice A2 L.length c2) b x.1.2 W)
      (fun x b => PlA.own) ?assign ?body ?done ?stop
    case assign =>
      rintro l pre x W K ⟨pa, pc, qa, qc, Qi, hP, hO⟩ hK
      have HP := Lib.hid hP
      have HO := Lib.hid hO
      clear hP hO
      have HK := Lib.hid hK
      clear hK
      obtain ⟨b, hb⟩ : ∃ b, W.heap.size = b := ⟨_, rfl⟩
      have HB := Lib.hid hb
      have hmb : w8.heap.size ≤ b := by have := HO.out.size; omega
      simp only [encP]
      gi_wp2
      have hal := (Below.refl W.heap.size W).alloc (Nat.le_refl _) (.cells (partC x.1.2).toArray 56)
      refine HK.out b _ ((KeepsOthers.alloc _ _).from _) (KpO.ofOnly HO.out (HO.out.alloc _) (by simp)) ⟨pa, pc, qa, qc, Qi, HP.out.below hal, HO.out.alloc _⟩ ⟨hmb, ?_, pa, pc, qa, qc, Qi, _, HP.out.below hal, HP.out.free_lt (by rw [HB.out]; exact Nat.le_refl _)⟩
      rw [← HB.out]; exact heap_alloc_new W _
    case body =>
      rintro l pre ⟨⟨j, pA, pD, pT, pU⟩, hj⟩ bx W ⟨pa, pc, qa, qc, Qi, hP, hO⟩ hA hlen
      simp only at hA
      rw [hm] at hP hA
      obtain ⟨Q, hQ⟩ : ∃ Q, (pre.map (fun x => x.1.2)).foldl addP [] = Q := ⟨_, rfl⟩
      rw [hQ] at hP
      have HQ := Lib.hid hQ
      have hok := foldP_ok (pre.map (fun x => x.1.2))
      rw [hQ] at hok
      have hQl : Q.length ≤ 64 := by have := hok.len; rw [List.length_map] at this; omega
      obtain ⟨ks, hks⟩ : ∃ ks, Q.map (·.1) = ks := ⟨_, rfl⟩
      have hkl : Q.length = ks.length := by rw [← hks, List.length_map]
      have hpw : PartW (pA, pD, pT, pU) := by
        obtain ⟨_, _, p, _, h1, h2, _⟩ := HP7.out.at_ (j := j) (by have := (List.getElem?_eq_some_iff.1 hj).1; exact this)
        rw [hj] at h1; injection h1 with h1; rw [← h1] at h2; exact h2
      obtain ⟨pa', pc', qa', qc', Qi', Q', hP', hfree'⟩ := hA.free
      have hfree := hP.uniq hP' hfree'
      have HF := Lib.hid hfree
      have HP := Lib.hid hP
      have HO := Lib.hid hO
      have HA := Lib.hid hA
      have HKS := Lib.hid (And.intro hks hkl)
      have HQS : Hid (∀ q ∈ Q, q.2.length ≤ 64) := Lib.hid fun q hq => by have := hok.small q hq; rw [List.length_map] at this; omega
      have hmW : m ≤ W.heap.size := by have := hO.size; omega
      have hcp : W.cell? ⟨sb + 1 + 1, 0, none⟩ = some (.pointer (some ⟨sb + 1, 0, none⟩)) := hO.cell HPT8.out (by show sb + 1 + 1 ≠ sb + 1; omega)
      have hc2 : W.cell? ⟨sb + 1, 2, none⟩ = some (.slice pa ks.length pc) := by simp [World.cell?, hP.box, boxPl, hkl]
      have hbx0 : W.cell? ⟨bx, 0, none⟩ = some (.int .i64 pA) := by simp [World.cell?, hA.box, partC]
      have HKI : Hid (St W.drew W.drew (IntsAt pa ks)) := Lib.hid (St.start fun V hV => by
        have h1 := hP.pl
        rw [hkl] at h1
        have h2 := Sl.of_own (own_keep h1 (w' := V) fun k hk => hV.block k (own_ty h1 hk).2.1)
        have e : plC Q = ks.flatMap fun x => [Value.int .i64 x] := by rw [← hks, List.flatMap_map]; unfold plC; rw [List.map_eq_flatMap]
        rw [e] at h2
        refine ⟨h2, fun x hx => ?_, by omega⟩
        rw [← hks] at hx
        obtain ⟨q, hq, rfl⟩ := List.mem_map.1 hx
        obtain ⟨h3, h4⟩ := hok.has q hq
        obtain ⟨p, hp⟩ : ∃ p, p ∈ q.2 := List.exists_mem_of_ne_nil _ h3
        obtain ⟨h5, h6⟩ := h4 p hp
        obtain ⟨y, _, rfl⟩ := List.mem_map.1 h5
        rw [← h6]
        obtain ⟨_, _, p2, _, h7, h8, _⟩ := HP7.out.at_ (j := y.1.1) (List.getElem?_eq_some_iff.1 y.2).1
        rw [y.2] at h7; injection h7 with h7; rw [← h7] at h8; exact h8.1)
      have hkl20 : ks.length ≤ 1048576 := by omega
      clear hQ hok hks hkl hP' hfree' hfree hP hO hA
      gi_wp2
      refine region_round_Z 7 (by kernel_rfl) (fun _ _ h => h) (by kernel_rfl) (fun V => V.cell? ⟨sb + 1 + 1, 0, none⟩ = some (.pointer (some ⟨sb + 1, 0, none⟩)) ∧ V.cell? ⟨sb + 1, 2, none⟩ = some (.slice pa ks.length pc) ∧ V.cell? ⟨bx, 0, none⟩ = some (.int .i64 pA)) ⟨hcp, hc2, hbx0⟩ (fun hHeld => ?_)
      refine wpAnyZ_take (i := 0) (v := ?_) rfl (by kernel_rfl) (by kernel_rfl) (by kernel_rfl) (by kernel_rfl) (fun _ _ _ h => h) (Or.inl ⟨by first | kernel_rfl | rfl, ?_⟩) (by assumption) ?_
      rotate_left
      · intro w hSw; (try dsimp only at hSw); go_simp; (try with_reducible rfl)
      (try simp only [Act.put, List.getElem_toArray, List.getElem_cons_succ, List.getElem_cons_zero, List.setIfInBounds_toArray, List.set_cons_zero, List.set_cons_succ])
      refine wpAnyZ_take (i := 1) (v := ?_) rfl (by kernel_rfl) (by kernel_rfl) (by kernel_rfl) (by kernel_rfl) (fun _ _ _ h => h) (Or.inl ⟨by first | kernel_rfl | rfl, ?_⟩) (by assumption) ?_
      rotate_left
      · intro w hSw; (try dsimp only at hSw); go_simp; (try with_reducible rfl)
      (try simp only [Act.put, List.getElem_toArray, List.getElem_cons_succ, List.getElem_cons_zero, List.setIfInBounds_toArray, List.set_cons_zero, List.set_cons_succ])
      refine wpAnyZ_take (i := 2) (v := ?_) rfl (by kernel_rfl) (by kernel_rfl) (by kernel_rfl) (by kernel_rfl) (fun _ _ _ h => h) (Or.inl ⟨by first | kernel_rfl | rfl, ?_⟩) (by assumption) ?_
      rotate_left
      · intro w hSw; (try dsimp only at hSw); go_simp; (try with_reducible rfl)
      (try simp only [Act.put, List.getElem_toArray, List.getElem_cons_succ, List.getElem_cons_zero, List.setIfInBounds_toArray, List.set_cons_zero, List.set_cons_succ])
      refine wpAnyZ_take (i := 3) (v := ?_) rfl (by kernel_rfl) (by kernel_rfl) (by kernel_rfl) (by kernel_rfl) (fun _ _ _ h => h) (Or.inl ⟨by first | kernel_rfl | rfl, ?_⟩) (by assumption) ?_
      rotate_left
      · intro w hSw; (try dsimp only at hSw); go_simp; (try with_reducible rfl)
      (try simp only [Act.put, List.getElem_toArray, List.getElem_cons_succ, List.getElem_cons_zero, List.setIfInBounds_toArray, List.set_cons_zero, List.set_cons_succ])
      refine wpAnyZ_take (i := 4) (v := ?_) rfl (by kernel_rfl) (by kernel_rfl) (by kernel_rfl) (by kernel_rfl) (fun _ _ _ h => h) (Or.inl ⟨by first | kernel_rfl | rfl, ?_⟩) (by assumption) ?_
      rotate_left
      · intro w hSw; (try dsimp only at hSw); go_simp; (try with_reducible rfl)
      (try simp only [Act.put, List.getElem_toArray, List.getElem_cons_succ, List.getElem_cons_zero, List.setIfInBounds_toArray, List.set_cons_zero, List.set_cons_succ])
      refine wpAnyZ_take (i := 5) (v := ?_) rfl (by kernel_rfl) (by kernel_rfl) (by kernel_rfl) (by kernel_rfl) (fun _ _ _ h => h) (Or.inl ⟨by first | kernel_rfl | rfl, ?_⟩) (by assumption) ?_
      rotate_left
      · intro w hSw; (try dsimp only at hSw); go_simp; (try with_reducible rfl)
      (try simp only [Act.put, List.getElem_toArray, List.getElem_cons_succ, List.getElem_cons_zero, List.setIfInBounds_toArray, List.set_cons_zero, List.set_cons_succ])
      refine wpAnyZ_ready (i := 6) (by kernel_rfl) rfl (fun K hK => ?_)
      go_simp
      refine (Index_st HKI (fun _ h => h) pc pA hkl20).mono ?_
      rintro e w9 ⟨rfl, HK9⟩
      have hb9 : Below W.heap.size W w9 := (Below.refl _ W).drew.trans HK9.out.2
      have hcp9 := (hb9.cell (lt_of_cell hcp)).trans hcp
      have hc29 := (hb9.cell (lt_of_cell hc2)).trans hc2
      have hbx9 := (hb9.cell (lt_of_cell hbx0)).trans hbx0
      refine hK.out _ _ (⟨hcp9, hc29, hbx9⟩) (fun hHeld => ?_)
      clear hK K
      (try simp only [Act.put, List.getElem_toArray, List.getElem_cons_succ, List.getElem_cons_zero, List.setIfInBounds_toArray, List.set_cons_zero, List.set_cons_succ])
      refine wpAnyZ_last (i := 7) rfl (by kernel_rfl) (by kernel_rfl) rfl (fun K hK => ?_)
      go_simp
      refine hK.out _ _ ?_
      clear hK K hHeld
      have HB9 := Lib.hid hb9
      have HP9 : Hid (PlM (sb + 1) m (.slice A6 r3.length c6) (.slice A2 L.length c2) pa pc qa qc Qi Q w9) := Lib.hid (HP.out.below hb9)
      have HA9 : Hid (w9.heap[bx]? = some (.cells #[.int .i64 pA, .int .i64 pD, .int .i64 pT, .int .i64 pU] 56 (0, 0))) := Lib.hid ((hb9.block bx (Array.getElem?_eq_some_iff.1 HA.out.box).1).trans HA.out.box)
      clear hb9 hcp hc2 hbx0
      rcases idxI_cases ks pA with ⟨k, hki, hkk, hkn⟩ | ⟨hki, hkn⟩
      · rw [hki]
        have HKK := Lib.hid (And.intro hkk hkn)
        have hneg : decide ((k : Int) < 0) = false := by rw [decide_eq_false_iff_not]; omega
        clear hki hkk hkn
        obtain ⟨q, hqk, hqA⟩ : ∃ q, Q[k]? = some q ∧ q.1 = pA := by
          have h1 := HKK.out.1
          rw [← HKS.out.1, List.getElem?_map] at h1
          rcases hq : Q[k]? with _ | q
          · rw [hq] at h1; cases h1
          · rw [hq] at h1; injection h1 with h1; exact ⟨q, rfl, h1⟩
        obtain ⟨Q2, hQ2⟩ : ∃ V, V = Q := ⟨_, rfl⟩
        have HX : Hid (Q2[k]? = some q ∧ addP Q (pA, pD, pT, pU) = Q2.set k (q.1, q.2 ++ [(pA, pD, pT, pU)])) := Lib.hid (by
          rw [hQ2]
          exact ⟨hqk, addP_old hqk hqA fun j r hj hr => HKK.out.2 j r.1 hj (by rw [← HKS.out.1, List.getElem?_map, hr]; rfl)⟩)
        have HXL : Hid (∀ xl : List PartL, xl = q.2 → xl.length < 1099511627776) := Lib.hid fun xl e => by
          have := HQS.out q (List.mem_of_getElem? hqk)
          rw [e]; omega
        have HP2 : Hid (PlM (sb + 1) m (.slice A6 r3.length c6) (.slice A2 L.length c2) pa pc qa qc Qi Q2 w9) := Lib.hid (by rw [hQ2]; exact HP9.out)
        have HFX : Hid (∀ x ∈ Qi, ownA x.1 ≠ some bx) := Lib.hid HF.out.2.2
        have HAX := HA9
        have HPX : Hid (w9.cell? ⟨sb + 1 + 1, 0, none⟩ = some (.pointer (some ⟨sb + 1, 0, none⟩))) := Lib.hid hcp9
        have HGW : Hid (Grew (fun j => j = sb + 1 ∨ m ≤ j) W w9) := Lib.hid (Grew.of_below HB9.out)
        clear hqk hqA hQ2 hcp9 hc29 hbx9
        obtain ⟨gq, xa, xc, xl, hqa, hxi, hxq, hcg, hfg, hgl, hox, hxg⟩ := HP2.out.site HX.out.1
        have hF2 : ∀ j, ownA xa = some j → j ≠ bx := fun j hj e => HFX.out _ (List.mem_of_getElem? hxi) (by rw [← e]; exact hj)
        have hcf3 : w9.cell? ⟨sb + 1, 3, none⟩ = some (.slice qa Q2.length qc) := by simp [World.cell?, HP2.out.box, boxPl]
        subst hqa
        obtain ⟨n2, hn2⟩ : ∃ n, Q2.length = n := ⟨_, rfl⟩
        have hkn2 : (k : Int) < (n2 : Int) := by have := (List.getElem?_eq_some_iff.1 HX.out.1).1; omega
        rw [hn2] at hcf3
        have hb0 : w9.cell? ⟨bx, 0, none⟩ = some (.int .i64 pA) := by simp [World.cell?, HAX.out]
        have hb1 : w9.cell? ⟨bx, 1, none⟩ = some (.int .i64 pD) := by simp [World.cell?, HAX.out]
        have hb2 : w9.cell? ⟨bx, 2, none⟩ = some (.int .i64 pT) := by simp [World.cell?, HAX.out]
        have hb3 : w9.cell? ⟨bx, 3, none⟩ = some (.int .i64 pU) := by simp [World.cell?, HAX.out]
        have HOX : Hid (w9.drew.ownsRow m 56 4 (.slice xa xl.length xc) xl.length (xl.flatMap partC)) := Lib.hid (own_keep hox fun _ _ => rfl)
        have HX2 : Hid (Qi[k]? = some (xa, xc, xl) ∧ Q2[k]? = some q ∧ addP Q (pA, pD, pT, pU) = Q2.set k (q.1, q.2 ++ [(pA, pD, pT, pU)])) := Lib.hid ⟨hxi, HX.out⟩
        have HGS : Hid (∀ V, Grew (fun j => ownA xa = some j) w9.drew V → V.cell? ⟨sb + 1 + 1, 0, none⟩ = some (.pointer (some ⟨sb + 1, 0, none⟩)) ∧ V.cell? ⟨sb + 1, 3, none⟩ = some (.slice (some ⟨gq, 0, none⟩) n2 qc) ∧ V.cell? ⟨gq, k, none⟩ = some (.slice xa xl.length xc) ∧ V.cell? ⟨bx, 0, none⟩ = some (.int .i64 pA) ∧ V.cell? ⟨bx, 1, none⟩ = some (.int .i64 pD) ∧ V.cell? ⟨bx, 2, none⟩ = some (.int .i64 pT) ∧ V.cell? ⟨bx, 3, none⟩ = some (.int .i64 pU)) :=
          Lib.hid fun V hV => ⟨hV.cell HPX.out (fun e => by have := (own_ty hox e).1; have h2 : m ≤ sb + 1 + 1 := this; omega), hV.cell hcf3 (fun e => by have := (own_ty hox e).1; have h2 : m ≤ sb + 1 := this; omega), hV.cell hcg (fun e => hxg _ e rfl), hV.cell hb0 (fun e => hF2 _ e rfl), hV.cell hb1 (fun e => hF2 _ e rfl), hV.cell hb2 (fun e => hF2 _ e rfl), hV.cell hb3 (fun e => hF2 _ e rfl)⟩
        have HFZ : Hid (∀ V, Grew (fun j => ownA xa = some j) w9.drew V → V.frozen? ⟨gq, k, none⟩ = false) := Lib.hid fun V hV => by
          have h1 := hV.block gq hgl.2 (fun e => hxg _ e rfl)
          have h2 : V.frozen? ⟨gq, k, none⟩ = w9.frozen? ⟨gq, k, none⟩ := by unfold World.frozen?; rw [h1]; rfl
          exact h2.trans hfg
        have hmx : m ≤ w9.drew.heap.size := by have := HGW.out.size; show m ≤ w9.heap.size; omega
        have hxl40 : xl.length < 1099511627776 := HXL.out xl hxq
        have HN2 := Lib.hid hn2
        obtain ⟨it0, hti, htz0, htz1, htz2⟩ := info_parts infoPt
        clear hox hxi hxq hcg hfg hgl hxg hF2 hcf3 hb0 hb1 hb2 hb3 hn2
        gi_wp2
        refine region_round_Z 16 (by kernel_rfl) (fun _ _ h => h) (by kernel_rfl) (fun V => V.cell? ⟨sb + 1 + 1, 0, none⟩ = some (.pointer (some ⟨sb + 1, 0, none⟩)) ∧ V.cell? ⟨sb + 1, 3, none⟩ = some (.slice (some ⟨gq, 0, none⟩) n2 qc) ∧ V.cell? ⟨gq, k, none⟩ = some (.slice xa xl.length xc) ∧ V.cell? ⟨bx, 0, none⟩ = some (.int .i64 pA) ∧ V.cell? ⟨bx, 1, none⟩ = some (.int .i64 pD) ∧ V.cell? ⟨bx, 2, none⟩ = some (.int .i64 pT) ∧ V.cell? ⟨bx, 3, none⟩ = some (.int .i64 pU)) (HGS.out _ (Grew.refl _ _)) (fun hHeld => ?_)
        refine wpAnyZ_take (i := 0) (v := ?_) rfl (by kernel_rfl) (by kernel_rfl) (by kernel_rfl) (by kernel_rfl) (fun _ _ _ h => h) (Or.inl ⟨by first | kernel_rfl | rfl, ?_⟩) (by assumption) ?_
        rotate_left
        · intro w hSw; (try dsimp only at hSw); go_simp; (try with_reducible rfl)
        (try simp only [Act.put, List.getElem_toArray, List.getElem_cons_succ, List.getElem_cons_zero, List.setIfInBounds_toArray, List.set_cons_zero, List.set_cons_succ])
        refine wpAnyZ_take (i := 1) (v := ?_) rfl (by kernel_rfl) (by kernel_rfl) (by kernel_rfl) (by kernel_rfl) (fun _ _ _ h => h) (Or.inl ⟨by first | kernel_rfl | rfl, ?_⟩) (by assumption) ?_
        rotate_left
        · intro w hSw; (try dsimp only at hSw); go_simp; (try with_reducible rfl)
        (try simp only [Act.put, List.getElem_toArray, List.getElem_cons_succ, List.getElem_cons_zero, List.setIfInBounds_toArray, List.set_cons_zero, List.set_cons_succ])
        refine wpAnyZ_take (i := 2) (v := ?_) rfl (by kernel_rfl) (by kernel_rfl) (by kernel_rfl) (by kernel_rfl) (fun _ _ _ h => h) (Or.inl ⟨by first | kernel_rfl | rfl, ?_⟩) (by assumption) ?_
        rotate_left
        · intro w hSw; (try dsimp only at hSw); go_simp; (try with_reducible rfl)
        (try simp only [Act.put, List.getElem_toArray, List.getElem_cons_succ, List.getElem_cons_zero, List.setIfInBounds_toArray, List.set_cons_zero, List.set_cons_succ])
        refine wpAnyZ_take (i := 3) (v := ?_) rfl (by kernel_rfl) (by kernel_rfl) (by kernel_rfl) (by kernel_rfl) (fun _ _ _ h => h) (Or.inl ⟨by first | kernel_rfl | rfl, ?_⟩) (by assumption) ?_
        rotate_left
        · intro w hSw; (try dsimp only at hSw); go_simp; (try with_reducible rfl)
        (try simp only [Act.put, List.getElem_toArray, List.getElem_cons_succ, List.getElem_cons_zero, List.setIfInBounds_toArray, List.set_cons_zero, List.set_cons_succ])
        refine wpAnyZ_take (i := 4) (v := ?_) rfl (by kernel_rfl) (by kernel_rfl) (by kernel_rfl) (by kernel_rfl) (fun _ _ _ h => h) (Or.inl ⟨by first | kernel_rfl | rfl, ?_⟩) (by assumption) ?_
        rotate_left
        · intro w hSw; (try dsimp only at hSw); go_simp; (try with_reducible rfl)
        (try simp only [Act.put, List.getElem_toArray, List.getElem_cons_succ, List.getElem_cons_zero, List.setIfInBounds_toArray, List.set_cons_zero, List.set_cons_succ])
        refine wpAnyZ_take (i := 5) (v := ?_) rfl (by kernel_rfl) (by kernel_rfl) (by kernel_rfl) (by kernel_rfl) (fun _ _ _ h => h) (Or.inl ⟨by first | kernel_rfl | rfl, ?_⟩) (by assumption) ?_
        rotate_left
        · intro w hSw; (try dsimp only at hSw); go_simp; (try with_reducible rfl)
        (try simp only [Act.put, List.getElem_toArray, List.getElem_cons_succ, List.getElem_cons_zero, List.setIfInBounds_toArray, List.set_cons_zero, List.set_cons_succ])
        refine wpAnyZ_take (i := 6) (v := ?_) rfl (by kernel_rfl) (by kernel_rfl) (by kernel_rfl) (by kernel_rfl) (fun _ _ _ h => h) (Or.inl ⟨by first | kernel_rfl | rfl, ?_⟩) (by assumption) ?_
        rotate_left
        · intro w hSw; (try dsimp only at hSw); go_simp; (try with_reducible rfl)
        (try simp only [Act.put, List.getElem_toArray, List.getElem_cons_succ, List.getElem_cons_zero, List.setIfInBounds_toArray, List.set_cons_zero, List.set_cons_succ])
        refine wpAnyZ_take (i := 7) (v := ?_) rfl (by kernel_rfl) (by kernel_rfl) (by kernel_rfl) (by kernel_rfl) (fun _ _ _ h => h) (Or.inl ⟨by first | kernel_rfl | rfl, ?_⟩) (by assumption) ?_
        rotate_left
        · intro w hSw; (try dsimp only at hSw); go_simp; (try with_reducible rfl)
        (try simp only [Act.put, List.getElem_toArray, List.getElem_cons_succ, List.getElem_cons_zero, List.setIfInBounds_toArray, List.set_cons_zero, List.set_cons_succ])
        refine wpAnyZ_take (i := 8) (v := ?_) rfl (by kernel_rfl) (by kernel_rfl) (by kernel_rfl) (by kernel_rfl) (fun _ _ _ h => h) (Or.inl ⟨by first | kernel_rfl | rfl, ?_⟩) (by assumption) ?_
        rotate_left
        · intro w hSw; (try dsimp only at hSw); go_simp; (try with_reducible rfl)
        (try simp only [Act.put, List.getElem_toArray, List.getElem_cons_succ, List.getElem_cons_zero, List.setIfInBounds_toArray, List.set_cons_zero, List.set_cons_succ])
        refine wpAnyZ_take (i := 9) (v := ?_) rfl (by kernel_rfl) (by kernel_rfl) (by kernel_rfl) (by kernel_rfl) (fun _ _ _ h => h) (Or.inl ⟨by first | kernel_rfl | rfl, ?_⟩) (by assumption) ?_
        rotate_left
        · intro w hSw; (try dsimp only at hSw); go_simp; (try with_reducible rfl)
        (try simp only [Act.put, List.getElem_toArray, List.getElem_cons_succ, List.getElem_cons_zero, List.setIfInBounds_toArray, List.set_cons_zero, List.set_cons_succ])
        refine wpAnyZ_take (i := 10) (v := ?_) rfl (by kernel_rfl) (by kernel_rfl) (by kernel_rfl) (by kernel_rfl) (fun _ _ _ h => h) (Or.inl ⟨by first | kernel_rfl | rfl, ?_⟩) (by assumption) ?_
        rotate_left
        · intro w hSw; (try dsimp only at hSw); go_simp; (try with_reducible rfl)
        (try simp only [Act.put, List.getElem_toArray, List.getElem_cons_succ, List.getElem_cons_zero, List.setIfInBounds_toArray, List.set_cons_zero, List.set_cons_succ])
        refine wpAnyZ_take (i := 11) (v := ?_) rfl (by kernel_rfl) (by kernel_rfl) (by kernel_rfl) (by kernel_rfl) (fun _ _ _ h => h) (Or.inl ⟨by first | kernel_rfl | rfl, ?_⟩) (by assumption) ?_
        rotate_left
        · intro w hSw; (try dsimp only at hSw); go_simp; (try with_reducible rfl)
        (try simp only [Act.put, List.getElem_toArray, List.getElem_cons_succ, List.getElem_cons_zero, List.setIfInBounds_toArray, List.set_cons_zero, List.set_cons_succ])
        refine wpAnyZ_take (i := 12) (v := ?_) rfl (by kernel_rfl) (by kernel_rfl) (by kernel_rfl) (by kernel_rfl) (fun _ _ _ h => h) (Or.inl ⟨by first | kernel_rfl | rfl, ?_⟩) (by assumption) ?_
        rotate_left
        · intro w hSw; (try dsimp only at hSw); go_simp; (try with_reducible rfl)
        (try simp only [Act.put, List.getElem_toArray, List.getElem_cons_succ, List.getElem_cons_zero, List.setIfInBounds_toArray, List.set_cons_zero, List.set_cons_succ])
        refine wpAnyZ_ready (i := 13) (by kernel_rfl) rfl (fun K hK => ?_)
        go_simp
        refine hK.out _ _ ((HGS.out _ ((Grew.refl _ _).alloc _))) (fun hHeld => ?_)
        clear hK K
        (try simp only [Act.put, List.getElem_toArray, List.getElem_cons_succ, List.getElem_cons_zero, List.setIfInBounds_toArray, List.set_cons_zero, List.set_cons_succ])
        refine wpAnyZ_ready (i := 14) (by kernel_rfl) rfl (fun K hK => ?_)
        refine step_pushG (w0 := w9.drew) rfl _ _ 22 rfl m 56 it0 _ 4 32 Try.underlying22 hti htz0 htz1 htz2 rfl (by decide) HOX.out rfl [.int .i64 pA, .int .i64 pD, .int .i64 pT, .int .i64 pU] 56 rfl rfl (by simp [Value.oneCell']) hxl40 (by decide) hmx ?_
        intro A14 c14 w14 HO14 HG14 HN14
        have hS14 := HGS.out w14 (((Grew.refl _ _).alloc _).grown (own_keep HOX.out fun k hk => Below.heap_alloc _ _ _ ((own_ty HOX.out hk).2.1)) HG14.out (fun _ _ h => h))
        have hfr14 : w14.frozen? ⟨gq, k, none⟩ = false := HFZ.out w14 (((Grew.refl _ _).alloc _).grown (own_keep HOX.out fun k hk => Below.heap_alloc _ _ _ ((own_ty HOX.out hk).2.1)) HG14.out (fun _ _ h => h))
        obtain ⟨hs0, hs1, hs2, hs3, hs4, hs5, hs6⟩ := hS14
        refine hK.out _ _ (⟨hs0, hs1, hs2, hs3, hs4, hs5, hs6⟩) (fun hHeld => ?_)
        clear hK K
        (try simp only [Act.put, List.getElem_toArray, List.getElem_cons_succ, List.getElem_cons_zero, List.setIfInBounds_toArray, List.set_cons_zero, List.set_cons_succ])
        refine wpAnyZ_take (i := 15) (v := ?_) rfl (by kernel_rfl) (by kernel_rfl) (by kernel_rfl) (by kernel_rfl) (fun _ _ _ h => h) (Or.inl ⟨by first | kernel_rfl | rfl, ?_⟩) (by assumption) ?_
        rotate_left
        · intro w hSw; (try dsimp only at hSw); go_simp; (try with_reducible rfl)
        (try simp only [Act.put, List.getElem_toArray, List.getElem_cons_succ, List.getElem_cons_zero, List.setIfInBounds_toArray, List.set_cons_zero, List.set_cons_succ])
        refine wpAnyZ_last (i := 16) rfl (by kernel_rfl) (by kernel_rfl) rfl (fun K hK => ?_)
        go_simp
        refine hK.out _ _ ?_
        clear hK K hHeld hs0 hs1 hs2 hs3 hs4 hs5 hs6 hfr14
        have hPUT := (HP2.out.put (by omega) hmx HX2.out.1 HX2.out.2.1 (p := (pA, pD, pT, pU)) (W1 := w9.drew) ((Below.refl _ w9).drew) (A' := A14) (c' := c14) HO14.out HG14.out HN14.out rfl)
        have hGf : Grew (fun j => j = sb + 1 ∨ m ≤ j) W (w14.setCell ⟨gq, k, none⟩ (.slice A14 (xl.length + 1) c14)) := HGW.out.trans hPUT.2 (fun j _ hj => .inr (by
          rcases hj with hj | hj
          · exact (own_ty HOX.out hj).1
          · exact (own_ty HP2.out.qs hj).1))
        have hOf : Only (sb + 1) none w8 (w14.setCell ⟨gq, k, none⟩ (.slice A14 (xl.length + 1) c14)) := HO.out.grew hGf (fun j hj => by rcases hj with hj | hj <;> omega)
        refine ⟨hGf.oth.from _, KpO.ofOnly HO.out hOf hGf.size, pa, pc, some ⟨gq, 0, none⟩, qc, Qi.set k (A14, c14, xl ++ [(pA, pD, pT, pU)]), ?_, hOf⟩
        rw [List.map_append, List.foldl_append]
        show PlM _ _ _ _ _ _ _ _ _ (addP (List.foldl addP [] (pre.map fun x => x.1.2)) (pA, pD, pT, pU)) _
        rw [HQ.out, HX2.out.2.2, hm]
        exact hPUT.1
      · rw [hki]
        have HKN := Lib.hid hkn
        have hc39 : w9.cell? ⟨sb + 1, 3, none⟩ = some (.slice qa ks.length qc) := by simp [World.cell?, HP9.out.box, boxPl, HKS.out.2]
        have HPD : Hid (PlM (sb + 1) m (.slice A6 r3.length c6) (.slice A2 L.length c2) pa pc qa qc Qi Q w9.drew) := Lib.hid (HP9.out.below ((Below.refl _ w9).drew))
        have hm9 : m ≤ w9.heap.size := by have := HB9.out.size; omega
        have hbxl : bx < w9.heap.size := (Array.getElem?_eq_some_iff.1 HA9.out).1
        have HT : Hid (∀ V, Grew (fun k => ownA pa = some k ∨ ownA qa = some k) w9.drew V → V.cell? ⟨sb + 1 + 1, 0, none⟩ = some (.pointer (some ⟨sb + 1, 0, none⟩)) ∧ V.cell? ⟨sb + 1, 2, none⟩ = some (.slice pa ks.length pc) ∧ V.cell? ⟨sb + 1, 3, none⟩ = some (.slice qa ks.length qc) ∧ V.cell? ⟨bx, 0, none⟩ = some (.int .i64 pA)) := Lib.hid fun V hV => by
          obtain ⟨h1, h2⟩ := HPD.out.still (by omega) HF.out hV
          have e1 := h1 (sb + 1) (by omega) (by show sb + 1 < w9.heap.size; omega)
          have e2 := h1 (sb + 1 + 1) (by omega) (by show sb + 1 + 1 < w9.heap.size; omega)
          have e3 := h2 hbxl
          exact ⟨(World.cell?_of_block e2).trans hcp9, (World.cell?_of_block e1).trans hc29, (World.cell?_of_block e1).trans hc39, (World.cell?_of_block e3).trans hbx9⟩
        have HT1 : Hid (∀ V, Grew (fun k => ownA pa = some k) w9.drew V → V.cell? ⟨sb + 1 + 1, 0, none⟩ = some (.pointer (some ⟨sb + 1, 0, none⟩)) ∧ V.cell? ⟨sb + 1, 2, none⟩ = some (.slice pa ks.length pc) ∧ V.cell? ⟨sb + 1, 3, none⟩ = some (.slice qa ks.length qc) ∧ V.cell? ⟨bx, 0, none⟩ = some (.int .i64 pA)) := Lib.hid fun V hV => HT.out V (hV.mono fun _ _ h => .inl h)
        have HPL : Hid (w9.drew.ownsRow m 3 1 (.slice pa ks.length pc) ks.length (plC Q)) := Lib.hid (by rw [← HKS.out.2]; exact HPD.out.pl)
        have hkl40 : ks.length < 1099511627776 := by omega
        obtain ⟨ii0, hii, hiz0, hiz1, hiz2⟩ := info_parts infoIx
        obtain ⟨is0, hsi, hsz0, hsz1, hsz2⟩ := info_parts infoPs
        obtain ⟨z9, hz9⟩ : ∃ z, w9.heap.size = z := ⟨_, rfl⟩
        have HZ9 := Lib.hid hz9
        have hn0 : decide ((-1 : Int) < 0) = true := by decide
        clear hki hkn hc39
        gi_wp2
        refine region_round_Y 18 (by kernel_rfl) (fun _ _ h => h) (by kernel_rfl) (fun V => V.cell? ⟨sb + 1 + 1, 0, none⟩ = some (.pointer (some ⟨sb + 1, 0, none⟩)) ∧ V.cell? ⟨sb + 1, 2, none⟩ = some (.slice pa ks.length pc) ∧ V.cell? ⟨sb + 1, 3, none⟩ = some (.slice qa ks.length qc) ∧ V.cell? ⟨bx, 0, none⟩ = some (.int .i64 pA)) (fun V => V.cell? ⟨sb + 1 + 1, 0, none⟩ = some (.pointer (some ⟨sb + 1, 0, none⟩))) (HT1.out _ (Grew.refl _ _)) (fun hHeld => ?_)
        refine wpAnyY_take (i := 0) (v := ?_) [18, 19, 20, 21] rfl (by kernel_rfl) (by kernel_rfl) (by kernel_rfl) (by kernel_rfl) (by kernel_rfl) (fun _ _ _ h => h) (Or.inl ⟨by first | kernel_rfl | rfl, ?_⟩) (fun _ h => h.1) (by assumption) ?_
        rotate_left
        · intro w hSw; (try dsimp only at hSw); go_simp; (try with_reducible rfl)
        (try simp only [Act.put, List.getElem_toArray, List.getElem_cons_succ, List.getElem_cons_zero, List.setIfInBounds_toArray, List.set_cons_zero, List.set_cons_succ])
        refine wpAnyY_take2 (i := 1) (v := ?_) rfl (by kernel_rfl) (by kernel_rfl) (by kernel_rfl) (by kernel_rfl) (fun _ _ _ h => h) (Or.inl ⟨by first | kernel_rfl | rfl, ?_⟩) (fun _ h => h.1) (by assumption) ?_
        rotate_left
        · intro w hSw; (try dsimp only at hSw); go_simp; (try with_reducible rfl)
        (try simp only [Act.put, List.getElem_toArray, List.getElem_cons_succ, List.getElem_cons_zero, List.setIfInBounds_toArray, List.set_cons_zero, List.set_cons_succ])
        refine wpAnyY_take (i := 2) (v := ?_) [18, 19, 20, 21] rfl (by kernel_rfl) (by kernel_rfl) (by kernel_rfl) (by kernel_rfl) (by kernel_rfl) (fun _ _ _ h => h) (Or.inl ⟨by first | kernel_rfl | rfl, ?_⟩) (fun _ h => h.1) (by assumption) ?_
        rotate_left
        · intro w hSw; (try dsimp only at hSw); go_simp; (try with_reducible rfl)
        (try simp only [Act.put, List.getElem_toArray, List.getElem_cons_succ, List.getElem_cons_zero, List.setIfInBounds_toArray, List.set_cons_zero, List.set_cons_succ])
        refine wpAnyY_take (i := 3) (v := ?_) [18, 19, 20, 21] rfl (by kernel_rfl) (by kernel_rfl) (by kernel_rfl) (by kernel_rfl) (by kernel_rfl) (fun _ _ _ h => h) (Or.inl ⟨by first | kernel_rfl | rfl, ?_⟩) (fun _ h => h.1) (by assumption) ?_
        rotate_left
        · intro w hSw; (try dsimp only at hSw); go_simp; (try with_reducible rfl)
        (try simp only [Act.put, List.getElem_toArray, List.getElem_cons_succ, List.getElem_cons_zero, List.setIfInBounds_toArray, List.set_cons_zero, List.set_cons_succ])
        refine wpAnyY_take (i := 4) (v := ?_) [18, 19, 20, 21] rfl (by kernel_rfl) (by kernel_rfl) (by kernel_rfl) (by kernel_rfl) (by kernel_rfl) (fun _ _ _ h => h) (Or.inl ⟨by first | kernel_rfl | rfl, ?_⟩) (fun _ h => h.1) (by assumption) ?_
        rotate_left
        · intro w hSw; (try dsimp only at hSw); go_simp; (try with_reducible rfl)
        (try simp only [Act.put, List.getElem_toArray, List.getElem_cons_succ, List.getElem_cons_zero, List.setIfInBounds_toArray, List.set_cons_zero, List.set_cons_succ])
        refine wpAnyY_take (i := 5) (v := ?_) [18, 19, 20, 21] rfl (by kernel_rfl) (by kernel_rfl) (by kernel_rfl) (by kernel_rfl) (by kernel_rfl) (fun _ _ _ h => h) (Or.inl ⟨by first | kernel_rfl | rfl, ?_⟩) (fun _ h => h.1) (by assumption) ?_
        rotate_left
        · intro w hSw; (try dsimp only at hSw); go_simp; (try with_reducible rfl)
        (try simp only [Act.put, List.getElem_toArray, List.getElem_cons_succ, List.getElem_cons_zero, List.setIfInBounds_toArray, List.set_cons_zero, List.set_cons_succ])
        refine wpAnyY_take (i := 6) (v := ?_) [18, 19, 20, 21] rfl (by kernel_rfl) (by kernel_rfl) (by kernel_rfl) (by kernel_rfl) (by kernel_rfl) (fun _ _ _ h => h) (Or.inl ⟨by first | kernel_rfl | rfl, ?_⟩) (fun _ h => h.1) (by assumption) ?_
        rotate_left
        · intro w hSw; (try dsimp only at hSw); go_simp; (try with_reducible rfl)
        (try simp only [Act.put, List.getElem_toArray, List.getElem_cons_succ, List.getElem_cons_zero, List.setIfInBounds_toArray, List.set_cons_zero, List.set_cons_succ])
        refine wpAnyY_take (i := 7) (v := ?_) [18, 19, 20, 21] rfl (by kernel_rfl) (by kernel_rfl) (by kernel_rfl) (by kernel_rfl) (by kernel_rfl) (fun _ _ _ h => h) (Or.inl ⟨by first | kernel_rfl | rfl, ?_⟩) (fun _ h => h.1) (by assumption) ?_
        rotate_left
        · intro w hSw; (try dsimp only at hSw); go_simp; (try with_reducible rfl)
        (try simp only [Act.put, List.getElem_toArray, List.getElem_cons_succ, List.getElem_cons_zero, List.setIfInBounds_toArray, List.set_cons_zero, List.set_cons_succ])
        refine wpAnyY_take (i := 10) (v := ?_) [11, 12, 13, 18, 19, 20, 21] rfl (by kernel_rfl) (by kernel_rfl) (by kernel_rfl) (by kernel_rfl) (by kernel_rfl) (fun _ _ _ h => h) (Or.inl ⟨by first | kernel_rfl | rfl, ?_⟩) (fun _ h => h.1) (by assumption) ?_
        rotate_left
        · intro w hSw; (try dsimp only at hSw); go_simp; (try with_reducible rfl)
        (try simp only [Act.put, List.getElem_toArray, List.getElem_cons_succ, List.getElem_cons_zero, List.setIfInBounds_toArray, List.set_cons_zero, List.set_cons_succ])
        refine wpAnyY_take (i := 11) (v := ?_) [12, 13, 18, 19, 20, 21] rfl (by kernel_rfl) (by kernel_rfl) (by kernel_rfl) (by kernel_rfl) (by kernel_rfl) (fun _ _ _ h => h) (Or.inl ⟨by first | kernel_rfl | rfl, ?_⟩) (fun _ h => h.1) (by assumption) ?_
        rotate_left
        · intro w hSw; (try dsimp only at hSw); go_simp; (try with_reducible rfl)
        (try simp only [Act.put, List.getElem_toArray, List.getElem_cons_succ, List.getElem_cons_zero, List.setIfInBounds_toArray, List.set_cons_zero, List.set_cons_succ])
        refine wpAnyY_take (i := 12) (v := ?_) [13, 18, 19, 20, 21] rfl (by kernel_rfl) (by kernel_rfl) (by kernel_rfl) (by kernel_rfl) (by kernel_rfl) (fun _ _ _ h => h) (Or.inl ⟨by first | kernel_rfl | rfl, ?_⟩) (fun _ h => h.1) (by assumption) ?_
        rotate_left
        · intro w hSw; (try dsimp only at hSw); go_simp; (try with_reducible rfl)
        (try simp only [Act.put, List.getElem_toArray, List.getElem_cons_succ, List.getElem_cons_zero, List.setIfInBounds_toArray, List.set_cons_zero, List.set_cons_succ])
        refine wpAnyY_take (i := 13) (v := ?_) [18, 19, 20, 21] rfl (by kernel_rfl) (by kernel_rfl) (by kernel_rfl) (by kernel_rfl) (by kernel_rfl) (fun _ _ _ h => h) (Or.inl ⟨by first | kernel_rfl | rfl, ?_⟩) (fun _ h => h.1) (by assumption) ?_
        rotate_left
        · intro w hSw; (try dsimp only at hSw); go_simp; (try with_reducible rfl)
        (try simp only [Act.put, List.getElem_toArray, List.getElem_cons_succ, List.getElem_cons_zero, List.setIfInBounds_toArray, List.set_cons_zero, List.set_cons_succ])
        apply meetY (fun _ lb2 A9 c9 V => PlY m w9.drew pa qa qc ks.length (plC Q ++ [.int .i64 pA]) (icells Qi) lb2 A9 c9 V) 7 #[true, true, true, true, true, true, true, true, true, true, true, true, true, true, true, false, false, false, false, false, false, false]
        case h =>
          intro KEY
          have g0 : Grew (fun k => ownA pa = some k) w9.drew w9.drew := Grew.refl _ _
          have hsd : w9.drew.heap.size = z9 := HZ9.out
          have hb1 : (w9.drew.alloc (.cells #[.int .i64 pA] 3)).heap[z9]? = some (.cells #[.int .i64 pA] 3) := by rw [← HZ9.out]; exact heap_alloc_new w9.drew _
          have hb2 : (w9.drew.alloc (.cells #[.slice none 0 0] 22)).heap[z9]? = some (.cells #[.slice none 0 0] 22) := by rw [← HZ9.out]; exact heap_alloc_new w9.drew _
          have hb12 : ((w9.drew.alloc (.cells #[.int .i64 pA] 3)).alloc (.cells #[.slice none 0 0] 22)).heap[z9 + 1]? = some (.cells #[.slice none 0 0] 22) := by rw [← HZ9.out]; have := heap_alloc_new (w9.drew.alloc (.cells #[.int .i64 pA] 3)) (.cells #[.slice none 0 0] 22); rw [World.size_alloc] at this; exact this
          have hb21 : ((w9.drew.alloc (.cells #[.slice none 0 0] 22)).alloc (.cells #[.int .i64 pA] 3)).heap[z9 + 1]? = some (.cells #[.int .i64 pA] 3) := by rw [← HZ9.out]; have := heap_alloc_new (w9.drew.alloc (.cells #[.slice none 0 0] 22)) (.cells #[.int .i64 pA] 3); rw [World.size_alloc] at this; exact this
          have hb11 : ((w9.drew.alloc (.cells #[.int .i64 pA] 3)).alloc (.cells #[.slice none 0 0] 22)).heap[z9]? = some (.cells #[.int .i64 pA] 3) := (Below.heap_alloc _ _ _ (by rw [World.size_alloc, hsd]; omega)).trans hb1
          have hb22 : ((w9.drew.alloc (.cells #[.slice none 0 0] 22)).alloc (.cells #[.int .i64 pA] 3)).heap[z9]? = some (.cells #[.slice none 0 0] 22) := (Below.heap_alloc _ _ _ (by rw [World.size_alloc, hsd]; omega)).trans hb2
          have HB := Lib.hid (And.intro (And.intro hb1 hb2) (And.intro (And.intro hb12 hb21) (And.intro hb11 hb22)))
          have hmz : m ≤ z9 := by omega
          clear hb1 hb2 hb12 hb21 hb11 hb22
          refine wpAnyY_ready2 (i := 8) (j := 14) (by kernel_rfl) rfl rfl (fun _ h => h.1) (fun K hK => ?_) (fun K hK => ?_)
          · go_simp
            refine hK.out _ _ ((HT1.out _ (g0.alloc _))) (fun hHeld => ?_)
            clear hK K
            (try simp only [Act.put, List.getElem_toArray, List.getElem_cons_succ, List.getElem_cons_zero, List.setIfInBounds_toArray, List.set_cons_zero, List.set_cons_succ])
            refine wpAnyY_ready2 (i := 9) (j := 14) (by kernel_rfl) rfl rfl (fun _ h => h.1) (fun K hK => ?_) (fun K hK => ?_)
            · skip
              refine step_pushA (w1 := (w9.drew.alloc (.cells #[.int .i64 pA] 3))) rfl _ _ 58 rfl m 3 ii0 _ 1 8 Try.underlying58 hii hiz0 hiz1 hiz2 rfl (by decide) (HPL.out.alloc _) rfl z9 [.int .i64 pA] 3 rfl HB.out.1.1 rfl (by simp [Value.oneCell']) hkl40 (by decide) (by rw [World.size_alloc, hsd]; omega) ?_
              intro A9 c9 w10 HO10 HG10 HN10
              have g1 : Grew (fun k => ownA pa = some k) w9.drew w10 := (g0.alloc _).grown (HPL.out.alloc _) HG10.out (fun _ _ h => h)
              refine hK.out _ _ ((HT1.out _ g1)) (fun hHeld => ?_)
              clear hK K
              (try simp only [Act.put, List.getElem_toArray, List.getElem_cons_succ, List.getElem_cons_zero, List.setIfInBounds_toArray, List.set_cons_zero, List.set_cons_succ])
              refine wpAnyY_ready (i := 14) (by kernel_rfl) rfl (fun _ h => h.1) (fun K hK => ?_)
              go_simp
              obtain ⟨z10, hz10⟩ : ∃ z, w10.heap.size = z := ⟨_, rfl⟩
              rw [hz10]
              refine hK.out _ _ ((HT1.out _ (g1.alloc _))) (fun hHeld => ?_)
              clear hK K
              (try simp only [Act.put, List.getElem_toArray, List.getElem_cons_succ, List.getElem_cons_zero, List.setIfInBounds_toArray, List.set_cons_zero, List.set_cons_succ])
              obtain ⟨z8, hz8⟩ : ∃ z, z = z9 := ⟨_, rfl⟩
              rw [← hz8]
              exact KEY _ _ (by kernel_rfl) (by kernel_rfl) z8 z10 A9 c9 _ (PlY.of HPD.out HKS.out.2 (g1.alloc _) (HO10.out.alloc _) (by rw [← hz10]; exact heap_alloc_new w10 _))
            · go_simp
              refine hK.out _ _ ((HT1.out _ ((g0.alloc _).alloc _))) (fun hHeld => ?_)
              clear hK K
              (try simp only [Act.put, List.getElem_toArray, List.getElem_cons_succ, List.getElem_cons_zero, List.setIfInBounds_toArray, List.set_cons_zero, List.set_cons_succ])
              refine wpAnyY_ready (i := 9) (by kernel_rfl) rfl (fun _ h => h.1) (fun K hK => ?_)
              refine step_pushA (w1 := ((w9.drew.alloc (.cells #[.int .i64 pA] 3)).alloc (.cells #[.slice none 0 0] 22))) rfl _ _ 58 rfl m 3 ii0 _ 1 8 Try.underlying58 hii hiz0 hiz1 hiz2 rfl (by decide) ((HPL.out.alloc _).alloc _) rfl z9 [.int .i64 pA] 3 rfl HB.out.2.2.1 rfl (by simp [Value.oneCell']) hkl40 (by decide) (by rw [World.size_alloc, World.size_alloc, hsd]; omega) ?_
              intro A9 c9 w10 HO10 HG10 HN10
              have g1 : Grew (fun k => ownA pa = some k) w9.drew w10 := ((g0.alloc _).alloc _).grown ((HPL.out.alloc _).alloc _) HG10.out (fun _ _ h => h)
              refine hK.out _ _ ((HT1.out _ g1)) (fun hHeld => ?_)
              clear hK K
              (try simp only [Act.put, List.getElem_toArray, List.getElem_cons_succ, List.getElem_cons_zero, List.setIfInBounds_toArray, List.set_cons_zero, List.set_cons_succ])
              exact KEY _ _ (by kernel_rfl) (by kernel_rfl) z9 (z9 + 1) A9 c9 _ (PlY.of HPD.out HKS.out.2 g1 HO10.out ((HG10.out.block (z9 + 1) (by rw [World.size_alloc, World.size_alloc, hsd]; omega) (fun e => by have := (own_ty HPL.out e.symm).2.1; rw [hsd] at this; omega)).trans HB.out.2.1.1))
          · go_simp
            refine hK.out _ _ ((HT1.out _ (g0.alloc _))) (fun hHeld => ?_)
            clear hK K
            (try simp only [Act.put, List.getElem_toArray, List.getElem_cons_succ, List.getElem_cons_zero, List.setIfInBounds_toArray, List.set_cons_zero, List.set_cons_succ])
            refine wpAnyY_ready (i := 8) (by kernel_rfl) rfl (fun _ h => h.1) (fun K hK => ?_)
            go_simp
            refine hK.out _ _ ((HT1.out _ ((g0.alloc _).alloc _))) (fun hHeld => ?_)
            clear hK K
            (try simp only [Act.put, List.getElem_toArray, List.getElem_cons_succ, List.getElem_cons_zero, List.setIfInBounds_toArray, List.set_cons_zero, List.set_cons_succ])
            refine wpAnyY_ready (i := 9) (by kernel_rfl) rfl (fun _ h => h.1) (fun K hK => ?_)
            refine step_pushA (w1 := ((w9.drew.alloc (.cells #[.slice none 0 0] 22)).alloc (.cells #[.int .i64 pA] 3))) rfl _ _ 58 rfl m 3 ii0 _ 1 8 Try.underlying58 hii hiz0 hiz1 hiz2 rfl (by decide) ((HPL.out.alloc _).alloc _) rfl (z9 + 1) [.int .i64 pA] 3 rfl HB.out.2.1.2 rfl (by simp [Value.oneCell']) hkl40 (by decide) (by rw [World.size_alloc, World.size_alloc, hsd]; omega) ?_
            intro A9 c9 w10 HO10 HG10 HN10
            have g1 : Grew (fun k => ownA pa = some k) w9.drew w10 := ((g0.alloc _).alloc _).grown ((HPL.out.alloc _).alloc _) HG10.out (fun _ _ h => h)
            refine hK.out _ _ ((HT1.out _ g1)) (fun hHeld => ?_)
            clear hK K
            (try simp only [Act.put, List.getElem_toArray, List.getElem_cons_succ, List.getElem_cons_zero, List.setIfInBounds_toArray, List.set_cons_zero, List.set_cons_succ])
            exact KEY _ _ (by kernel_rfl) (by kernel_rfl) (z9 + 1) z9 A9 c9 _ (PlY.of HPD.out HKS.out.2 g1 HO10.out ((HG10.out.block z9 (by rw [World.size_alloc, World.size_alloc, hsd]; omega) (fun e => by have := (own_ty HPL.out e.symm).2.1; rw [hsd] at this; omega)).trans HB.out.2.2.2))
        case hrest =>
          intro lb1 lb2 A9 c9 W4 hK4
          have HK4 := Lib.hid hK4
          have hm4 : m ≤ W4.heap.size := by have := hK4.grew.size; have e : w9.drew.heap.size = z9 := HZ9.out; omega
          clear hK4
          refine wpAnyY_ready (i := 15) (by kernel_rfl) rfl (fun _ h => h.1) (fun K hK => ?_)
          refine step_pushA (w1 := W4) rfl _ _ 59 rfl m 22 is0 _ 1 24 Try.underlying59 hsi hsz0 hsz1 hsz2 rfl (by decide) HK4.out.qs rfl lb2 [.slice none 0 0] 22 rfl HK4.out.lit rfl (by simp [Value.oneCell']) hkl40 (by decide) hm4 ?_
          intro A15 c15 w15 HO15 HG15 HN15
          have hg15 : Grew (fun k => ownA pa = some k ∨ ownA qa = some k) w9.drew w15 := (HK4.out.grew.mono (fun _ _ h => .inl h)).grown HK4.out.qs HG15.out (fun _ _ h => .inr h)
          have HG5 := Lib.hid hg15
          obtain ⟨hs0, hs1, hs2, hs3⟩ := HT.out _ hg15
          have hbl := (HPD.out.still (by omega) HF.out hg15).1 (sb + 1) (by omega) (by show sb + 1 < w9.heap.size; omega)
          have hbo := hbl.trans HPD.out.box
          have hfr15 : w15.frozen? ⟨sb + 1, 2, none⟩ = false := by simp [World.frozen?, hbo]
          clear hg15
          refine hK.out _ _ (⟨hs0, hs1, hs2, hs3⟩) (fun hHeld => ?_)
          clear hK K
          (try simp only [Act.put, List.getElem_toArray, List.getElem_cons_succ, List.getElem_cons_zero, List.setIfInBounds_toArray, List.set_cons_zero, List.set_cons_succ])
          refine wpAnyY_take (i := 16) (v := ?_) [17, 18, 19, 20, 21] rfl (by kernel_rfl) (by kernel_rfl) (by kernel_rfl) (by kernel_rfl) (by kernel_rfl) (fun _ _ _ h => h) (Or.inl ⟨by first | kernel_rfl | rfl, ?_⟩) (fun _ h => h.1) (by assumption) ?_
          rotate_left
          · intro w hSw; (try dsimp only at hSw); go_simp; (try with_reducible rfl)
          (try simp only [Act.put, List.getElem_toArray, List.getElem_cons_succ, List.getElem_cons_zero, List.setIfInBounds_toArray, List.set_cons_zero, List.set_cons_succ])
          refine wpAnyY_take (i := 17) (v := ?_) [18, 19, 20, 21] rfl (by kernel_rfl) (by kernel_rfl) (by kernel_rfl) (by kernel_rfl) (by kernel_rfl) (fun _ _ _ h => h) (Or.inl ⟨by first | kernel_rfl | rfl, ?_⟩) (fun _ h => h.1) (by assumption) ?_
          rotate_left
          · intro w hSw; (try dsimp only at hSw); go_simp; (try with_reducible rfl)
          (try simp only [Act.put, List.getElem_toArray, List.getElem_cons_succ, List.getElem_cons_zero, List.setIfInBounds_toArray, List.set_cons_zero, List.set_cons_succ])
          refine wpAnyY_late (i := 18) (by kernel_rfl) (by kernel_rfl) rfl (fun K hK => ?_)
          go_simp
          have hcp18 : (w15.setCell ⟨sb + 1, 2, none⟩ (.slice A9 (ks.length + 1) c9)).cell? ⟨sb + 1 + 1, 0, none⟩ = some (.pointer (some ⟨sb + 1, 0, none⟩)) := by
            rw [World.cell?_setCell_far _ _ _ _ (by show sb + 1 ≠ sb + 1 + 1; omega)]; exact hs0
          have hcf18 : (w15.setCell ⟨sb + 1, 2, none⟩ (.slice A9 (ks.length + 1) c9)).heap[sb + 1]? = some (.cells ((boxPl (.slice A6 r3.length c6) (.slice A2 L.length c2) pa pc qa qc Q.length).setIfInBounds 2 (.slice A9 (ks.length + 1) c9)) 61 (0, 0)) := heap_setCell_same w15 (sb + 1) 2 _ _ _ hbo
          have hfr18 : (w15.setCell ⟨sb + 1, 2, none⟩ (.slice A9 (ks.length + 1) c9)).frozen? ⟨sb + 1, 3, none⟩ = false := by rw [World.frozen?_setCell]; simp [World.frozen?, hbo]
          have HCF := Lib.hid (And.intro hcf18 hbo)
          clear hcf18 hbo hbl
          refine hK.out _ _ (hcp18) ?_
          clear hK K
          (try simp only [Act.put, List.getElem_toArray, List.getElem_cons_succ, List.getElem_cons_zero, List.setIfInBounds_toArray, List.set_cons_zero, List.set_cons_succ])
          refine wpAnyY_late (i := 19) (by kernel_rfl) (by kernel_rfl) rfl (fun K hK => ?_)
          go_simp
          refine hK.out _ _ (hcp18) ?_
          clear hK K
          (try simp only [Act.put, List.getElem_toArray, List.getElem_cons_succ, List.getElem_cons_zero, List.setIfInBounds_toArray, List.set_cons_zero, List.set_cons_succ])
          refine wpAnyY_late (i := 20) (by kernel_rfl) (by kernel_rfl) rfl (fun K hK => ?_)
          go_simp
          refine hK.out _ _ (hcp18) ?_
          clear hK K
          (try simp only [Act.put, List.getElem_toArray, List.getElem_cons_succ, List.getElem_cons_zero, List.setIfInBounds_toArray, List.set_cons_zero, List.set_cons_succ])
          refine wpAnyY_last (i := 21) (by kernel_rfl) (by kernel_rfl) (by kernel_rfl) rfl (fun K hK => ?_)
          go_simp
          refine hK.out _ _ (by rw [World.cell?_setCell_far _ _ _ _ (by show sb + 1 ≠ sb + 1 + 1; omega)]; exact hcp18) ?_
          clear hK K hHeld hcp18 hfr18 hfr15 hs0 hs1 hs2 hs3
          have hNEW := HPD.out.new (by omega) HG5.out (key := pA) (pa' := A9) (pc' := c9) (qa' := A15) (qc' := c15)
            (by rw [HKS.out.2]; exact own_keep HK4.out.pl fun k hk => HG15.out.block k (own_ty HK4.out.pl hk).2.1 (fun e => own_apart HK4.out.pl HK4.out.qs tyIS k hk e.symm)) (by rw [HKS.out.2]; exact HO15.out)
          have hGX : Grew (fun j => j = sb + 1 ∨ m ≤ j) W ((w15.setCell ⟨sb + 1, 2, none⟩ (.slice A9 (Q.length + 1) c9)).setCell ⟨sb + 1, 3, none⟩ (.slice A15 (Q.length + 1) c15)) :=
            ((((Grew.of_below HB9.out).drew).trans (HG5.out.mono (R' := fun j => j = sb + 1 ∨ m ≤ j) (fun j _ hj => .inr (by
              rcases hj with hj | hj
              · exact (own_ty HPD.out.pl hj).1
              · exact (own_ty HPD.out.qs hj).1))) (fun _ _ h => h)).setCell _ _ _ (.inl (.inl rfl))).setCell _ _ _ (.inl (.inl rfl))
          have hAX : ((w15.setCell ⟨sb + 1, 2, none⟩ (.slice A9 (Q.length + 1) c9)).setCell ⟨sb + 1, 3, none⟩ (.slice A15 (Q.length + 1) c15)).heap[bx]? = some (.cells #[.int .i64 pA, .int .i64 pD, .int .i64 pT, .int .i64 pU] 56 (0, 0)) :=
            ((heap_setCell_other _ _ _ _ (fun e => by have h1 := HA.out.lo; have e : bx = sb + 1 := e; omega)).trans (heap_setCell_other _ _ _ _ (fun e => by have h1 := HA.out.lo; have e : bx = sb + 1 := e; omega))).trans (((HPD.out.still (by omega) HF.out HG5.out).2 hbxl).trans HA9.out)
          have hPX : ((w15.setCell ⟨sb + 1, 2, none⟩ (.slice A9 (Q.length + 1) c9)).setCell ⟨sb + 1, 3, none⟩ (.slice A15 (Q.length + 1) c15)).cell? ⟨sb + 1 + 1, 0, none⟩ = some (.pointer (some ⟨sb + 1, 0, none⟩)) := by
            rw [World.cell?_setCell_far _ _ _ _ (by show sb + 1 ≠ sb + 1 + 1; omega), World.cell?_setCell_far _ _ _ _ (by show sb + 1 ≠ sb + 1 + 1; omega)]
            exact (HT.out _ HG5.out).1
          rw [HKS.out.2] at hNEW hGX hAX hPX
          obtain ⟨wx, hwx⟩ : ∃ V, (w15.setCell ⟨sb + 1, 2, none⟩ (.slice A9 (ks.length + 1) c9)).setCell ⟨sb + 1, 3, none⟩ (.slice A15 (ks.length + 1) c15) = V := ⟨_, rfl⟩
          rw [hwx] at hNEW hGX hAX hPX ⊢
          obtain ⟨Q2, hQ2⟩ : ∃ V, V = Q ++ [(pA, ([] : List PartL))] := ⟨_, rfl⟩
          obtain ⟨Qi2, hQi2⟩ : ∃ V, V = Qi ++ [((none, 0, []) : Item PartL)] := ⟨_, rfl⟩
          obtain ⟨q, hq0⟩ : ∃ V, V = (pA, ([] : List PartL)) := ⟨_, rfl⟩
          obtain ⟨k, hk0⟩ : ∃ V, ks.length = V := ⟨_, rfl⟩
          have HP2 : Hid (PlM (sb + 1) m (.slice A6 r3.length c6) (.slice A2 L.length c2) A9 c9 A15 c15 Qi2 Q2 wx) := Lib.hid (by rw [hQ2, hQi2]; exact hNEW)
          have HX : Hid (Q2[k]? = some q ∧ addP Q (pA, pD, pT, pU) = Q2.set k (q.1, q.2 ++ [(pA, pD, pT, pU)])) := Lib.hid (by
            have hkq : k = Q.length := by rw [HKS.out.2, hk0]
            rw [hQ2, hq0, hkq, addP_new (fun r hr e => HKN.out r.1 (by rw [← HKS.out.1]; exact List.mem_map.2 ⟨r, hr, rfl⟩) e)]
            simp)
          have HXL : Hid (∀ xl : List PartL, xl = q.2 → xl.length < 1099511627776) := Lib.hid fun xl e => by rw [e, hq0]; simp
          have HFX : Hid (∀ x ∈ Qi2, ownA x.1 ≠ some bx) := Lib.hid fun x hx => by
            rw [hQi2] at hx
            rcases List.mem_append.1 hx with hx | hx
            · exact HF.out.2.2 x hx
            · obtain rfl := List.mem_singleton.1 hx
              simp [ownA]
          have HAX := Lib.hid hAX
          have HPX := Lib.hid hPX
          have HGW := Lib.hid hGX
          rw [hk0]
          clear hNEW hGX hAX hPX hwx hQ2 hQi2 hq0 hk0 hz9
          obtain ⟨gq, xa, xc, xl, hqa, hxi, hxq, hcg, hfg, hgl, hox, hxg⟩ := HP2.out.site HX.out.1
          have hF2 : ∀ j, ownA xa = some j → j ≠ bx := fun j hj e => HFX.out _ (List.mem_of_getElem? hxi) (by rw [← e]; exact hj)
          have hcf3 : wx.cell? ⟨sb + 1, 3, none⟩ = some (.slice A15 Q2.length c15) := by simp [World.cell?, HP2.out.box, boxPl]
          subst hqa
          obtain ⟨n2, hn2⟩ : ∃ n, Q2.length = n := ⟨_, rfl⟩
          have hkn2 : (k : Int) < (n2 : Int) := by have := (List.getElem?_eq_some_iff.1 HX.out.1).1; omega
          rw [hn2] at hcf3
          have hb0 : wx.cell? ⟨bx, 0, none⟩ = some (.int .i64 pA) := by simp [World.cell?, HAX.out]
          have hb1 : wx.cell? ⟨bx, 1, none⟩ = some (.int .i64 pD) := by simp [World.cell?, HAX.out]
          have hb2 : wx.cell? ⟨bx, 2, none⟩ = some (.int .i64 pT) := by simp [World.cell?, HAX.out]
          have hb3 : wx.cell? ⟨bx, 3, none⟩ = some (.int .i64 pU) := by simp [World.cell?, HAX.out]
          have HOX : Hid (wx.drew.ownsRow m 56 4 (.slice xa xl.length xc) xl.length (xl.flatMap partC)) := Lib.hid (own_keep hox fun _ _ => rfl)
          have HX2 : Hid (Qi2[k]? = some (xa, xc, xl) ∧ Q2[k]? = some q ∧ addP Q (pA, pD, pT, pU) = Q2.set k (q.1, q.2 ++ [(pA, pD, pT, pU)])) := Lib.hid ⟨hxi, HX.out⟩
          have HGS : Hid (∀ V, Grew (fun j => ownA xa = some j) wx.drew V → V.cell? ⟨sb + 1 + 1, 0, none⟩ = some (.pointer (some ⟨sb + 1, 0, none⟩)) ∧ V.cell? ⟨sb + 1, 3, none⟩ = some (.slice (some ⟨gq, 0, none⟩) n2 c15) ∧ V.cell? ⟨gq, k, none⟩ = some (.slice xa xl.length xc) ∧ V.cell? ⟨bx, 0, none⟩ = some (.int .i64 pA) ∧ V.cell? ⟨bx, 1, none⟩ = some (.int .i64 pD) ∧ V.cell? ⟨bx, 2, none⟩ = some (.int .i64 pT) ∧ V.cell? ⟨bx, 3, none⟩ = some (.int .i64 pU)) :=
            Lib.hid fun V hV => ⟨hV.cell HPX.out (fun e => by have := (own_ty hox e).1; have h2 : m ≤ sb + 1 + 1 := this; omega), hV.cell hcf3 (fun e => by have := (own_ty hox e).1; have h2 : m ≤ sb + 1 := this; omega), hV.cell hcg (fun e => hxg _ e rfl), hV.cell hb0 (fun e => hF2 _ e rfl), hV.cell hb1 (fun e => hF2 _ e rfl), hV.cell hb2 (fun e => hF2 _ e rfl), hV.cell hb3 (fun e => hF2 _ e rfl)⟩
          have HFZ : Hid (∀ V, Grew (fun j => ownA xa = some j) wx.drew V → V.frozen? ⟨gq, k, none⟩ = false) := Lib.hid fun V hV => by
            have h1 := hV.block gq hgl.2 (fun e => hxg _ e rfl)
            have h2 : V.frozen? ⟨gq, k, none⟩ = wx.frozen? ⟨gq, k, none⟩ := by unfold World.frozen?; rw [h1]; rfl
            exact h2.trans hfg
          have hmx : m ≤ wx.drew.heap.size := by have := HGW.out.size; show m ≤ wx.heap.size; omega
          have hxl40 : xl.length < 1099511627776 := HXL.out xl hxq
          have HN2 := Lib.hid hn2
          obtain ⟨it0, hti, htz0, htz1, htz2⟩ := info_parts infoPt
          clear hox hxi hxq hcg hfg hgl hxg hF2 hcf3 hb0 hb1 hb2 hb3 hn2
          gi_wp2
          refine region_round_Z 16 (by kernel_rfl) (fun _ _ h => h) (by kernel_rfl) (fun V => V.cell? ⟨sb + 1 + 1, 0, none⟩ = some (.pointer (some ⟨sb + 1, 0, none⟩)) ∧ V.cell? ⟨sb + 1, 3, none⟩ = some (.slice (some ⟨gq, 0, none⟩) n2 c15) ∧ V.cell? ⟨gq, k, none⟩ = some (.slice xa xl.length xc) ∧ V.cell? ⟨bx, 0, none⟩ = some (.int .i64 pA) ∧ V.cell? ⟨bx, 1, none⟩ = some (.int .i64 pD) ∧ V.cell? ⟨bx, 2, none⟩ = some (.int .i64 pT) ∧ V.cell? ⟨bx, 3, none⟩ = some (.int .i64 pU)) (HGS.out _ (Grew.refl _ _)) (fun hHeld => ?_)
          refine wpAnyZ_take (i := 0) (v := ?_) rfl (by kernel_rfl) (by kernel_rfl) (by kernel_rfl) (by kernel_rfl) (fun _ _ _ h => h) (Or.inl ⟨by first | kernel_rfl | rfl, ?_⟩) (by assumption) ?_
          rotate_left
          · intro w hSw; (try dsimp only at hSw); go_simp; (try with_reducible rfl)
          (try simp only [Act.put, List.getElem_toArray, List.getElem_cons_succ, List.getElem_cons_zero, List.setIfInBounds_toArray, List.set_cons_zero, List.set_cons_succ])
          refine wpAnyZ_take (i := 1) (v := ?_) rfl (by kernel_rfl) (by kernel_rfl) (by kernel_rfl) (by kernel_rfl) (fun _ _ _ h => h) (Or.inl ⟨by first | kernel_rfl | rfl, ?_⟩) (by assumption) ?_
          rotate_left
          · intro w hSw; (try dsimp only at hSw); go_simp; (try with_reducible rfl)
          (try simp only [Act.put, List.getElem_toArray, List.getElem_cons_succ, List.getElem_cons_zero, List.setIfInBounds_toArray, List.set_cons_zero, List.set_cons_succ])
          refine wpAnyZ_take (i := 2) (v := ?_) rfl (by kernel_rfl) (by kernel_rfl) (by kernel_rfl) (by kernel_rfl) (fun _ _ _ h => h) (Or.inl ⟨by first | kernel_rfl | rfl, ?_⟩) (by assumption) ?_
          rotate_left
          · intro w hSw; (try dsimp only at hSw); go_simp; (try with_reducible rfl)
          (try simp only [Act.put, List.getElem_toArray, List.getElem_cons_succ, List.getElem_cons_zero, List.setIfInBounds_toArray, List.set_cons_zero, List.set_cons_succ])
          refine wpAnyZ_take (i := 3) (v := ?_) rfl (by kernel_rfl) (by kernel_rfl) (by kernel_rfl) (by kernel_rfl) (fun _ _ _ h => h) (Or.inl ⟨by first | kernel_rfl | rfl, ?_⟩) (by assumption) ?_
          rotate_left
          · intro w hSw; (try dsimp only at hSw); go_simp; (try with_reducible rfl)
          (try simp only [Act.put, List.getElem_toArray, List.getElem_cons_succ, List.getElem_cons_zero, List.setIfInBounds_toArray, List.set_cons_zero, List.set_cons_succ])
          refine wpAnyZ_take (i := 4) (v := ?_) rfl (by kernel_rfl) (by kernel_rfl) (by kernel_rfl) (by kernel_rfl) (fun _ _ _ h => h) (Or.inl ⟨by first | kernel_rfl | rfl, ?_⟩) (by assumption) ?_
          rotate_left
          · intro w hSw; (try dsimp only at hSw); go_simp; (try with_reducible rfl)
          (try simp only [Act.put, List.getElem_toArray, List.getElem_cons_succ, List.getElem_cons_zero, List.setIfInBounds_toArray, List.set_cons_zero, List.set_cons_succ])
          refine wpAnyZ_take (i := 5) (v := ?_) rfl (by kernel_rfl) (by kernel_rfl) (by kernel_rfl) (by kernel_rfl) (fun _ _ _ h => h) (Or.inl ⟨by first | kernel_rfl | rfl, ?_⟩) (by assumption) ?_
          rotate_left
          · intro w hSw; (try dsimp only at hSw); go_simp; (try with_reducible rfl)
          (try simp only [Act.put, List.getElem_toArray, List.getElem_cons_succ, List.getElem_cons_zero, List.setIfInBounds_toArray, List.set_cons_zero, List.set_cons_succ])
          refine wpAnyZ_take (i := 6) (v := ?_) rfl (by kernel_rfl) (by kernel_rfl) (by kernel_rfl) (by kernel_rfl) (fun _ _ _ h => h) (Or.inl ⟨by first | kernel_rfl | rfl, ?_⟩) (by assumption) ?_
          rotate_left
          · intro w hSw; (try dsimp only at hSw); go_simp; (try with_reducible rfl)
          (try simp only [Act.put, List.getElem_toArray, List.getElem_cons_succ, List.getElem_cons_zero, List.setIfInBounds_toArray, List.set_cons_zero, List.set_cons_succ])
          refine wpAnyZ_take (i := 7) (v := ?_) rfl (by kernel_rfl) (by kernel_rfl) (by kernel_rfl) (by kernel_rfl) (fun _ _ _ h => h) (Or.inl ⟨by first | kernel_rfl | rfl, ?_⟩) (by assumption) ?_
          rotate_left
          · intro w hSw; (try dsimp only at hSw); go_simp; (try with_reducible rfl)
          (try simp only [Act.put, List.getElem_toArray, List.getElem_cons_succ, List.getElem_cons_zero, List.setIfInBounds_toArray, List.set_cons_zero, List.set_cons_succ])
          refine wpAnyZ_take (i := 8) (v := ?_) rfl (by kernel_rfl) (by kernel_rfl) (by kernel_rfl) (by kernel_rfl) (fun _ _ _ h => h) (Or.inl ⟨by first | kernel_rfl | rfl, ?_⟩) (by assumption) ?_
          rotate_left
          · intro w hSw; (try dsimp only at hSw); go_simp; (try with_reducible rfl)
          (try simp only [Act.put, List.getElem_toArray, List.getElem_cons_succ, List.getElem_cons_zero, List.setIfInBounds_toArray, List.set_cons_zero, List.set_cons_succ])
          refine wpAnyZ_take (i := 9) (v := ?_) rfl (by kernel_rfl) (by kernel_rfl) (by kernel_rfl) (by kernel_rfl) (fun _ _ _ h => h) (Or.inl ⟨by first | kernel_rfl | rfl, ?_⟩) (by assumption) ?_
          rotate_left
          · intro w hSw; (try dsimp only at hSw); go_simp; (try with_reducible rfl)
          (try simp only [Act.put, List.getElem_toArray, List.getElem_cons_succ, List.getElem_cons_zero, List.setIfInBounds_toArray, List.set_cons_zero, List.set_cons_succ])
          refine wpAnyZ_take (i := 10) (v := ?_) rfl (by kernel_rfl) (by kernel_rfl) (by kernel_rfl) (by kernel_rfl) (fun _ _ _ h => h) (Or.inl ⟨by first | kernel_rfl | rfl, ?_⟩) (by assumption) ?_
          rotate_left
          · intro w hSw; (try dsimp only at hSw); go_simp; (try with_reducible rfl)
          (try simp only [Act.put, List.getElem_toArray, List.getElem_cons_succ, List.getElem_cons_zero, List.setIfInBounds_toArray, List.set_cons_zero, List.set_cons_succ])
          refine wpAnyZ_take (i := 11) (v := ?_) rfl (by kernel_rfl) (by kernel_rfl) (by kernel_rfl) (by kernel_rfl) (fun _ _ _ h => h) (Or.inl ⟨by first | kernel_rfl | rfl, ?_⟩) (by assumption) ?_
          rotate_left
          · intro w hSw; (try dsimp only at hSw); go_simp; (try with_reducible rfl)
          (try simp only [Act.put, List.getElem_toArray, List.getElem_cons_succ, List.getElem_cons_zero, List.setIfInBounds_toArray, List.set_cons_zero, List.set_cons_succ])
          refine wpAnyZ_take (i := 12) (v := ?_) rfl (by kernel_rfl) (by kernel_rfl) (by kernel_rfl) (by kernel_rfl) (fun _ _ _ h => h) (Or.inl ⟨by first | kernel_rfl | rfl, ?_⟩) (by assumption) ?_
          rotate_left
          · intro w hSw; (try dsimp only at hSw); go_simp; (try with_reducible rfl)
          (try simp only [Act.put, List.getElem_toArray, List.getElem_cons_succ, List.getElem_cons_zero, List.setIfInBounds_toArray, List.set_cons_zero, List.set_cons_succ])
          refine wpAnyZ_ready (i := 13) (by kernel_rfl) rfl (fun K hK => ?_)
          go_simp
          refine hK.out _ _ ((HGS.out _ ((Grew.refl _ _).alloc _))) (fun hHeld => ?_)
          clear hK K
          (try simp only [Act.put, List.getElem_toArray, List.getElem_cons_succ, List.getElem_cons_zero, List.setIfInBounds_toArray, List.set_cons_zero, List.set_cons_succ])
          refine wpAnyZ_ready (i := 14) (by kernel_rfl) rfl (fun K hK => ?_)
          refine step_pushG (w0 := wx.drew) rfl _ _ 22 rfl m 56 it0 _ 4 32 Try.underlying22 hti htz0 htz1 htz2 rfl (by decide) HOX.out rfl [.int .i64 pA, .int .i64 pD, .int .i64 pT, .int .i64 pU] 56 rfl rfl (by simp [Value.oneCell']) hxl40 (by decide) hmx ?_
          intro A14 c14 w14 HO14 HG14 HN14
          have hS14 := HGS.out w14 (((Grew.refl _ _).alloc _).grown (own_keep HOX.out fun k hk => Below.heap_alloc _ _ _ ((own_ty HOX.out hk).2.1)) HG14.out (fun _ _ h => h))
          have hfr14 : w14.frozen? ⟨gq, k, none⟩ = false := HFZ.out w14 (((Grew.refl _ _).alloc _).grown (own_keep HOX.out fun k hk => Below.heap_alloc _ _ _ ((own_ty HOX.out hk).2.1)) HG14.out (fun _ _ h => h))
          obtain ⟨hs0, hs1, hs2, hs3, hs4, hs5, hs6⟩ := hS14
          refine hK.out _ _ (⟨hs0, hs1, hs2, hs3, hs4, hs5, hs6⟩) (fun hHeld => ?_)
          clear hK K
          (try simp only [Act.put, List.getElem_toArray, List.getElem_cons_succ, List.getElem_cons_zero, List.setIfInBounds_toArray, List.set_cons_zero, List.set_cons_succ])
          refine wpAnyZ_take (i := 15) (v := ?_) rfl (by kernel_rfl) (by kernel_rfl) (by kernel_rfl) (by kernel_rfl) (fun _ _ _ h => h) (Or.inl ⟨by first | kernel_rfl | rfl, ?_⟩) (by assumption) ?_
          rotate_left
          · intro w hSw; (try dsimp only at hSw); go_simp; (try with_reducible rfl)
          (try simp only [Act.put, List.getElem_toArray, List.getElem_cons_succ, List.getElem_cons_zero, List.setIfInBounds_toArray, List.set_cons_zero, List.set_cons_succ])
          refine wpAnyZ_last (i := 16) rfl (by kernel_rfl) (by kernel_rfl) rfl (fun K hK => ?_)
          go_simp
          refine hK.out _ _ ?_
          clear hK K hHeld hs0 hs1 hs2 hs3 hs4 hs5 hs6 hfr14
          have hPUT := (HP2.out.put (by omega) hmx HX2.out.1 HX2.out.2.1 (p := (pA, pD, pT, pU)) (W1 := wx.drew) ((Below.refl _ wx).drew) (A' := A14) (c' := c14) HO14.out HG14.out HN14.out rfl)
          have hGf : Grew (fun j => j = sb + 1 ∨ m ≤ j) W (w14.setCell ⟨gq, k, none⟩ (.slice A14 (xl.length + 1) c14)) := HGW.out.trans hPUT.2 (fun j _ hj => .inr (by
            rcases hj with hj | hj
            · exact (own_ty HOX.out hj).1
            · exact (own_ty HP2.out.qs hj).1))
          have hOf : Only (sb + 1) none w8 (w14.setCell ⟨gq, k, none⟩ (.slice A14 (xl.length + 1) c14)) := HO.out.grew hGf (fun j hj => by rcases hj with hj | hj <;> omega)
          refine ⟨hGf.oth.from _, KpO.ofOnly HO.out hOf hGf.size, A9, c9, some ⟨gq, 0, none⟩, c15, Qi2.set k (A14, c14, xl ++ [(pA, pD, pT, pU)]), ?_, hOf⟩
          rw [List.map_append, List.foldl_append]
          show PlM _ _ _ _ _ _ _ _ _ (addP (List.foldl addP [] (pre.map fun x => x.1.2)) (pA, pD, pT, pU)) _
          rw [HQ.out, HX2.out.2.2, hm]
          exact hPUT.1
    case done =>
      rintro D xs W hD hxs ⟨pa, pc, qa, qc, Qi, hP, hO⟩ hKD
      have hxs2 : xs.map (fun x => x.1.1) = dsN ps.length := hxs
      obtain ⟨P, hPe⟩ : ∃ P, plcs ps = P := ⟨_, rfl⟩
      have hfold : (xs.map (fun x => x.1.2)).foldl addP [] = P := by
        rw [dsN_vals ps ps.length xs hxs2 (Nat.le_refl _), List.take_length]; exact hPe
      rw [hfold, hm] at hP
      have hGl : (bodies L).length = O.length := by rw [bodies_length]; exact HLI.out
      have hPts : PtsOk ps (bodies L) := ⟨hp4, fun p hp => by
        obtain ⟨h1, h2, h3⟩ := HOK.out.2.2 p hp
        exact ⟨h1, by omega, (bitsB_iff _ _ _).2 h3⟩, fun s hs => by
        have hs2 := hs
        rw [HGS.out] at hs2
        obtain ⟨g, _, rfl⟩ := List.mem_map.1 hs2
        exact ⟨(symG_rep g).1, HL.out.2 _ hs, fun x hx => by have h1 := ((symG_rep g).2 x).1 hx; have h2 := ins_one.1 h1.2.2.2; omega⟩⟩
      have hpok := plcs_ok ps
      rw [hPe] at hpok
      have hpw : ∀ p ∈ ps, PartW p := HP7.out.it
      have h6m : w6.heap.size < m := by rw [← hm, HS8.out, HS7.out]; omega
      have hmW : m ≤ W.heap.size := by have := hO.size; omega
      have hw5 : sb + 3 ≤ w5.heap.size := Nat.le_trans hszr HK5.out.2.size
      have hch : ∀ k, sb + 3 ≤ k → k < w6.heap.size → W.heap[k]? = w6.heap[k]? := fun k h1 h2 =>
        ((hO.block k (by omega) (by omega) (by simp)).trans (HB8.out.block k (by rw [HS7.out]; exact h2))).trans (HO7.out.block k h2 (by omega) (by simp))
      have HDQ : Hid (∀ V, (∀ k, sb + 3 ≤ k → k < W.heap.size → V.heap[k]? = W.heap[k]?) → Lst A6 r3 V ∧ LLx A2 L V ∧ IntsAt pa (P.map (·.1)) V ∧ Items PartsAt qa P.length Qi V) := Lib.hid fun V hV => by
        have hV6 : ∀ k, sb + 3 ≤ k → k < w6.heap.size → V.heap[k]? = w6.heap[k]? := fun k h1 h2 => (hV k h1 (by omega)).trans (hch k h1 h2)
        have hrows := HGR.out.rows (by have := HLI.out; omega) V (fun k h1 h2 => (hV6 k h1 (by have := HB06.out.size; omega)).trans (HB06.out.block k h2))
        have hsl := hrows.sl
        rw [hd_cells] at hsl
        have hpl := Sl.of_own (own_keep hP.pl (w' := V) fun k hk => hV k (by have := (own_ty hP.pl hk).1; omega) (own_ty hP.pl hk).2.1)
        have hqs := Sl.of_own (own_keep hP.qs (w' := V) fun k hk => hV k (by have := (own_ty hP.qs hk).1; omega) (own_ty hP.qs hk).2.1)
        have epl : plC P = (P.map (·.1)).flatMap fun x => [Value.int .i64 x] := by rw [List.flatMap_map]; unfold plC; rw [List.map_eq_flatMap]
        rw [epl] at hpl
        have hin : ∀ q ∈ P, ∀ p ∈ q.2, p ∈ ps ∧ p.1 = q.1 := fun q hq => (hpok.has q hq).2
        refine ⟨HR3.out.1.lst (Sl.of_own (own_keep HO6.out (w' := V) fun k hk => hV6 k (by have h1 := (own_ty HO6.out hk).1; have h2 : w5.heap.size ≤ k := h1; omega) (own_ty HO6.out hk).2.1)) V (Below.refl _ _), ⟨⟨hsl, fun i hi => hrows.it i hi⟩, hrows.ln⟩, ⟨by rw [List.length_map]; exact hpl, fun x hx => ?_, by rw [List.length_map]; have := hpok.len; omega⟩, ⟨hqs, fun x hx => ⟨Sl.of_own (own_keep (hP.rows x hx) (w' := V) fun k hk => hV k (by have := (own_ty (hP.rows x hx) hk).1; omega) (own_ty (hP.rows x hx) hk).2.1), fun p hp => ?_, ?_⟩⟩⟩
        · obtain ⟨q, hq, rfl⟩ := List.mem_map.1 hx
          obtain ⟨p, hp⟩ := List.exists_mem_of_ne_nil _ (hpok.has q hq).1
          obtain ⟨h1, h2⟩ := hin q hq p hp
          rw [← h2]; exact (hpw p h1).1
        · have hb : x.2.2 ∈ P.map (·.2) := by rw [← hP.bod]; exact List.mem_map.2 ⟨x, hx, rfl⟩
          obtain ⟨q, hq, e⟩ := List.mem_map.1 hb
          exact hpw p (hin q hq p (by rw [e]; exact hp)).1
        · have hb : x.2.2 ∈ P.map (·.2) := by rw [← hP.bod]; exact List.mem_map.2 ⟨x, hx, rfl⟩
          obtain ⟨q, hq, e⟩ := List.mem_map.1 hb
          have := hpok.small q hq
          rw [← e]; omega
      obtain ⟨n, hn⟩ : ∃ n, P.length = n := ⟨_, rfl⟩
      have hn4 : n ≤ 4 := by have := hpok.len; omega
      have hfbW := hP.box
      rw [hn] at hfbW
      have hcp : W.cell? ⟨sb + 1 + 1, 0, none⟩ = some (.pointer (some ⟨sb + 1, 0, none⟩)) := hO.cell HPT8.out (by show sb + 1 + 1 ≠ sb + 1; omega)
      have hc2 : W.cell? ⟨sb + 1, 2, none⟩ = some (.slice pa n pc) := by simp [World.cell?, hfbW, boxPl]
      obtain ⟨mb, hmb⟩ : ∃ z, W.heap.size = z := ⟨_, rfl⟩
      obtain ⟨n1, hn1⟩ : ∃ z, n + 1 = z := ⟨_, rfl⟩
      have hni : (n : Int) + 1 = (n1 : Int) := by omega
      have hnw : IntKind.i64.wrap (n1 : Int) = (n1 : Int) := IntWalk.i64_in _ (by omega)
      have hmk : ∀ w : World, (Instr.makeSlice 58 (.int .i64 (n1 : Int)) (.int .i64 (n1 : Int))).run Try.prog w = .ok (.slice (some ⟨w.heap.size, 0, none⟩) n1 n1) (w.alloc (.cells (madeCells #[.int .i64 0] n1) 3)) := fun w => run_make_row' 58 3 (.int .i64 0) 8 Try.underlying58 infoIy rfl .i64 .i64 n1 (by omega) (by omega) w
      have HPN := Lib.hid (And.intro hPe (And.intro hn hn1))
      have HPTS := Lib.hid hPts
      have HPOK := Lib.hid hpok
      have HQI := Lib.hid hP.bod
      have HPF := Lib.hid (And.intro (own_cap hP.pl) hP.lenI)
      have HOW8 := Lib.hid hO
      have HKD := Lib.hid hKD
      have HFBW := Lib.hid hfbW
      have HMB := Lib.hid hmb
      have hmmb : m ≤ mb := by omega
      clear hxs hxs2 hfold hP hPts hpok hpw hch hO hKD hPe hn hn1 hGl
      go_wp2_with fail
      refine wp_region_ZN 10 (by kernel_rfl) (fun V => V.cell? ⟨sb + 1 + 1, 0, none⟩ = some (.pointer (some ⟨sb + 1, 0, none⟩)) ∧ V.cell? ⟨sb + 1, 2, none⟩ = some (.slice pa n pc)) ⟨hcp, hc2⟩ (fun hHeld => ?_)
      refine wpAnyZ_take (i := 0) (v := ?_) rfl (by kernel_rfl) (by kernel_rfl) (by kernel_rfl) (by kernel_rfl) (fun _ _ _ h => h) (Or.inl ⟨by first | kernel_rfl | rfl, ?_⟩) (by assumption) ?_
      rotate_left
      · intro w hSw; (try dsimp only at hSw); go_simp; (try with_reducible rfl)
      (try simp only [Act.put, List.getElem_toArray, List.getElem_cons_succ, List.getElem_cons_zero, List.setIfInBounds_toArray, List.set_cons_zero, List.set_cons_succ])
      refine wpAnyZ_take (i := 1) (v := ?_) rfl (by kernel_rfl) (by kernel_rfl) (by kernel_rfl) (by kernel_rfl) (fun _ _ _ h => h) (Or.inl ⟨by first | kernel_rfl | rfl, ?_⟩) (by assumption) ?_
      rotate_left
      · intro w hSw; (try dsimp only at hSw); go_simp; (try with_reducible rfl)
      (try simp only [Act.put, List.getElem_toArray, List.getElem_cons_succ, List.getElem_cons_zero, List.setIfInBounds_toArray, List.set_cons_zero, List.set_cons_succ])
      refine wpAnyZ_take (i := 2) (v := ?_) rfl (by kernel_rfl) (by kernel_rfl) (by kernel_rfl) (by kernel_rfl) (fun _ _ _ h => h) (Or.inl ⟨by first | kernel_rfl | rfl, ?_⟩) (by assumption) ?_
      rotate_left
      · intro w hSw; (try dsimp only at hSw); go_simp; (try with_reducible rfl)
      (try simp only [Act.put, List.getElem_toArray, List.getElem_cons_succ, List.getElem_cons_zero, List.setIfInBounds_toArray, List.set_cons_zero, List.set_cons_succ])
      refine wpAnyZ_take (i := 3) (v := ?_) rfl (by kernel_rfl) (by kernel_rfl) (by kernel_rfl) (by kernel_rfl) (fun _ _ _ h => h) (Or.inl ⟨by first | kernel_rfl | rfl, ?_⟩) (by assumption) ?_
      rotate_left
      · intro w hSw; (try dsimp only at hSw); go_simp; (try with_reducible rfl)
      (try simp only [Act.put, List.getElem_toArray, List.getElem_cons_succ, List.getElem_cons_zero, List.setIfInBounds_toArray, List.set_cons_zero, List.set_cons_succ])
      refine wpAnyZ_take (i := 4) (v := ?_) rfl (by kernel_rfl) (by kernel_rfl) (by kernel_rfl) (by kernel_rfl) (fun _ _ _ h => h) (Or.inl ⟨by first | kernel_rfl | rfl, ?_⟩) (by assumption) ?_
      rotate_left
      · intro w hSw; (try dsimp only at hSw); go_simp; (try with_reducible rfl)
      (try simp only [Act.put, List.getElem_toArray, List.getElem_cons_succ, List.getElem_cons_zero, List.setIfInBounds_toArray, List.set_cons_zero, List.set_cons_succ])
      refine wpAnyZ_take (i := 5) (v := ?_) rfl (by kernel_rfl) (by kernel_rfl) (by kernel_rfl) (by kernel_rfl) (fun _ _ _ h => h) (Or.inl ⟨by first | kernel_rfl | rfl, ?_⟩) (by assumption) ?_
      rotate_left
      · intro w hSw; (try dsimp only at hSw); go_simp; (try with_reducible rfl)
      (try simp only [Act.put, List.getElem_toArray, List.getElem_cons_succ, List.getElem_cons_zero, List.setIfInBounds_toArray, List.set_cons_zero, List.set_cons_succ])
      refine wpAnyZ_take (i := 6) (v := ?_) rfl (by kernel_rfl) (by kernel_rfl) (by kernel_rfl) (by kernel_rfl) (fun _ _ _ h => h) (Or.inl ⟨by first | kernel_rfl | rfl, ?_⟩) (by assumption) ?_
      rotate_left
      · intro w hSw; (try dsimp only at hSw); go_simp; (try with_reducible rfl)
      (try simp only [Act.put, List.getElem_toArray, List.getElem_cons_succ, List.getElem_cons_zero, List.setIfInBounds_toArray, List.set_cons_zero, List.set_cons_succ])
      refine wpAnyZ_ready (i := 7) (by kernel_rfl) rfl (fun K hK => ?_)
      go_simp
      have hcp1 := cellAlloc (.cells (madeCells #[.int .i64 0] n1) 3) (show W.cell? ⟨sb + 1 + 1, 0, none⟩ = _ from hcp)
      have hc21 := cellAlloc (.cells (madeCells #[.int .i64 0] n1) 3) (show W.cell? ⟨sb + 1, 2, none⟩ = _ from hc2)
      have hfb1 : (W.alloc (.cells (madeCells #[.int .i64 0] n1) 3)).heap[sb + 1]? = some (.cells (boxPl (.slice A6 r3.length c6) (.slice A2 L.length c2) pa pc qa qc n) 61 (0, 0)) := (Below.heap_alloc _ _ _ (by rw [hmb]; omega)).trans HFBW.out
      have hff1 : (W.alloc (.cells (madeCells #[.int .i64 0] n1) 3)).frozen? ⟨sb + 1, 4, none⟩ = false := by simp [World.frozen?, hfb1]
      have hcf1 : (W.alloc (.cells (madeCells #[.int .i64 0] n1) 3)).cell? ⟨sb + 1, 4, none⟩ = some (.slice none 0 0) := by simp [World.cell?, hfb1, boxPl]
      have hms0 : MsB mb n (fun _ => 0) (W.alloc (.cells (madeCells #[.int .i64 0] n1) 3)) := by rw [← HPN.out.2.2, ← hmb]; exact MsB.made _
      have HFB1 := Lib.hid hfb1
      have HMS0 := Lib.hid hms0
      clear hfb1 hms0
      refine hK.out _ _ (⟨hcp1, hc21⟩) (fun hHeld => ?_)
      clear hK K
      (try simp only [Act.put, List.getElem_toArray, List.getElem_cons_succ, List.getElem_cons_zero, List.setIfInBounds_toArray, List.set_cons_zero, List.set_cons_succ])
      refine wpAnyZ_ready (i := 8) (by kernel_rfl) rfl (fun K hK => ?_)
      go_simp
      refine hK.out _ _ (⟨hcp1, hc21⟩) (fun hHeld => ?_)
      clear hK K
      (try simp only [Act.put, List.getElem_toArray, List.getElem_cons_succ, List.getElem_cons_zero, List.setIfInBounds_toArray, List.set_cons_zero, List.set_cons_succ])
      refine wpAnyZ_take (i := 9) (v := ?_) rfl (by kernel_rfl) (by kernel_rfl) (by kernel_rfl) (by kernel_rfl) (fun _ _ _ h => h) (Or.inl ⟨by first | kernel_rfl | rfl, ?_⟩) (by assumption) ?_
      rotate_left
      · intro w hSw; (try dsimp only at hSw); go_simp; (try with_reducible rfl)
      (try simp only [Act.put, List.getElem_toArray, List.getElem_cons_succ, List.getElem_cons_zero, List.setIfInBounds_toArray, List.set_cons_zero, List.set_cons_succ])
      refine wpAnyZ_last (i := 10) rfl (by kernel_rfl) (by kernel_rfl) rfl (fun K hK => ?_)
      go_simp
      refine hK.out _ _ ?_
      refine NoPanic.normal ?_
      clear hK K hHeld hff1 hcf1 hc21
      have hcpm : ((W.alloc (.cells (madeCells #[.int .i64 0] n1) 3)).setCell ⟨sb + 1, 4, none⟩ (.slice (some ⟨mb, 0, none⟩) n1 n1)).cell? ⟨sb + 1 + 1, 0, none⟩ = some (.pointer (some ⟨sb + 1, 0, none⟩)) := by
        rw [World.cell?_setCell_far _ _ _ _ (by show sb + 1 ≠ sb + 1 + 1; omega)]; exact hcp1
      obtain ⟨wm, hwm⟩ : ∃ V, ((W.alloc (.cells (madeCells #[.int .i64 0] n1) 3)).setCell ⟨sb + 1, 4, none⟩ (.slice (some ⟨mb, 0, none⟩) n1 n1)).drew = V := ⟨_, rfl⟩
      have HSM : Hid (wm.heap.size = mb + 1) := Lib.hid (by rw [← hwm]; simp; exact hmb)
      have HOM : Hid (Only (sb + 1) none W wm) := Lib.hid (by rw [← hwm]; exact (((Only.refl _ _ W).alloc _).setCell 4 _).drewN 1)
      have HFM : Hid (wm.heap[sb + 1]? = some (.cells #[.slice A6 r3.length c6, .slice A2 L.length c2, .slice pa n pc, .slice qa n qc, .slice (some ⟨mb, 0, none⟩) n1 n1, .int .i64 0] 61 (0, 0))) := Lib.hid (by
        rw [← hwm]
        exact (heap_setCell_same _ (sb + 1) 4 _ _ _ HFB1.out).trans (by simp [boxPl]))
      obtain ⟨lvs, hlvs⟩ : ∃ l, P.map (lvOf (bodies L)) = l := ⟨_, rfl⟩
      have hlvl : lvs.length = n := by rw [← hlvs, List.length_map]; exact HPN.out.2.1
      have HMS : Hid (MsB mb n (msF lvs n) wm) := Lib.hid ((HMS0.out.keep (W' := wm) (by rw [← hwm]; exact heap_setCell_other _ _ _ _ (fun e => by have e : mb = sb + 1 := e; omega))).congr fun j hj => by
        unfold msF
        by_cases h : j < n
        · rw [if_pos h]
        · rw [if_neg h, List.drop_eq_nil_of_le (by omega)]; rfl)
      have HCPM : Hid (wm.cell? ⟨sb + 1 + 1, 0, none⟩ = some (.pointer (some ⟨sb + 1, 0, none⟩))) := Lib.hid (by rw [← hwm]; exact hcpm)
      have HQM : Hid (∀ V, Only mb none wm V → (Lst A6 r3 V ∧ LLx A2 L V ∧ IntsAt pa (P.map (·.1)) V ∧ Items PartsAt qa n Qi V) ∧ V.heap[sb + 1]? = some (.cells #[.slice A6 r3.length c6, .slice A2 L.length c2, .slice pa n pc, .slice qa n qc, .slice (some ⟨mb, 0, none⟩) n1 n1, .int .i64 0] 61 (0, 0)) ∧ V.cell? ⟨sb + 1 + 1, 0, none⟩ = some (.pointer (some ⟨sb + 1, 0, none⟩))) := Lib.hid fun V hV => by
        have h := HDQ.out V (fun k h1 h2 => (hV.block k (by rw [HSM.out]; omega) (by omega) (by simp)).trans (HOM.out.block k h2 (by omega) (by simp)))
        rw [HPN.out.2.1] at h
        exact ⟨h, (hV.block (sb + 1) (by rw [HSM.out]; omega) (by omega) (by simp)).trans HFM.out, hV.cell HCPM.out (by show sb + 1 + 1 ≠ mb; omega)⟩
      have HLV := Lib.hid (And.intro hlvs hlvl)
      rw [hwm]
      clear hwm hlvs hlvl hcpm hcp hcp1 hc2 hmk hfbW
      obtain ⟨_, hfbm, hcp⟩ := HQM.out wm (Only.refl _ _ _)
      have hc2 : wm.cell? ⟨sb + 1, 2, none⟩ = some (.slice pa n pc) := by simp [World.cell?, hfbm]
      clear hfbm
      go_wp2_with fail
      clear hc2 hcp
      go_loopw [16] (fun iv wq => ∃ K : Nat, K ≤ n ∧ iv = .int .i64 ((K : Int) - 1) ∧ Hid (MsB mb n (msF lvs K) wq) ∧ Hid (Only mb none wm wq)) (fun iv _ => (intOf iv + 1).toNat)
      case atStart => exact ⟨n, Nat.le_refl _, rfl, HMS, Lib.hid (Only.refl _ _ _)⟩
      case round =>
      obtain ⟨K, hK, rfl, HM, HOQ⟩ := hrel
      cases K with
      | zero =>
        obtain ⟨ks, hks⟩ : ∃ l, P.map (·.1) = l := ⟨_, rfl⟩
        have hkl : ks.length = n := by rw [← hks, List.length_map]; exact HPN.out.2.1
        have hql : Qi.length = n := HPF.out.2.trans HPN.out.2.1
        have hcap : n ≤ pc ∧ pc ≤ 9223372036854775807 := by have h := HPF.out.1; rw [HPN.out.2.1] at h; exact h
        obtain ⟨f, hf⟩ : ∃ f : FdI, f = { wa := A6, wc := c6, want := r3, ga := A2, gc := c2, gs := L, pa := pa, pc := pc, pl := ks, qa := qa, qc := qc, qs := Qi, ma := some ⟨mb, 0, none⟩, mc := n1, ms := (List.range (n + 1)).map (msF lvs 0) } := ⟨_, rfl⟩
        have hmbr : mb < wr.heap.size := (Array.getElem?_eq_some_iff.1 (show wr.heap[mb]? = some _ from HM.out)).1
        have HFB : Hid (FdBox (sb + 1) f 0 wr) := Lib.hid (by
          unfold FdBox fdCells
          rw [hf]
          simp only [hkl, hql, List.length_map, List.length_range]
          rw [HPN.out.2.2]
          exact (HQM.out _ HOQ.out).2.1)
        have hbG : bodies f.gs = bodies L := by rw [hf]
        have hfpl : f.pl = (plcs ps).map (·.1) := by rw [hf, HPN.out.1]; exact hks.symm
        have hfqs : bodies f.qs = (plcs ps).map (·.2) := by rw [hf, HPN.out.1]; exact HQI.out
        have hfms : f.ms = (List.range ((plcs ps).length + 1)).map fun j => topS (((plcs ps).map (lvOf (bodies L))).drop j) := by
          rw [hf, HPN.out.1, HPN.out.2.1, HLV.out.1]
          exact List.map_congr_left fun j _ => by unfold msF; rw [if_neg (by omega)]
        have HOKF : Hid (FdOk f) := Lib.hid (fdOk_of hbG hfpl hfqs (by rw [hfms, List.length_map, List.length_range]) HPTS.out (by rw [hf]; show L.length ≤ 1048576; rw [HLI.out]; exact hlo) (by rw [hf]; show ks.length ≤ pc; omega) (by rw [hf]; exact hcap.2))
        have HLVF : Hid (FdLv f lvs) := Lib.hid (by have h := fdLv_of hbG hfpl hfqs hfms HPTS.out; rw [HPN.out.1, HLV.out.1] at h; exact h)
        have htop : 0 + topS lvs ≤ 536870912 := by have h := HLVF.out.top; omega
        have HDF : Hid (Dep (fun k => k < wr.heap.size ∧ k ≠ sb + 1) wr (FdW f)) := Lib.hid fun V hV => by
          have hch : ∀ k, sb + 3 ≤ k → k < W.heap.size → V.heap[k]? = W.heap[k]? := fun k h1 h2 => ((hV k ⟨by omega, by omega⟩ (by omega)).trans (HOQ.out.block k (by rw [HSM.out]; omega) (by omega) (by simp))).trans (HOM.out.block k h2 (by omega) (by simp))
          obtain ⟨h1, h2, h3, h4⟩ := HDQ.out V hch
          have hmsV : MsB mb n (msF lvs 0) V := HM.out.keep (hV mb ⟨hmbr, by omega⟩ hmbr)
          have e : Qi.length = P.length := HPF.out.2
          rw [hf]
          exact ⟨h1, h2, by rw [← hks]; exact h3, by show Items PartsAt qa Qi.length Qi V; rw [e]; exact h4, hmsV.ints (by omega) fun j hj => by
            have h5 := HPTS.out.top j
            rw [HPN.out.1, HLV.out.1] at h5
            unfold msF
            rw [if_neg (by omega)]
            exact ⟨by omega, by omega⟩⟩
        have hsbr : sb + 1 < wr.heap.size := by omega
        have hfr := from_st f (sb + 1) HOKF HLVF wr.heap.size hsbr (F := FdW f) (fun _ h => h) lvs 0 0 0 wr (Lib.hid List.drop_zero) (Nat.zero_le _) (Int.le_refl _) htop HDF (Nat.le_refl _) HFB (by omega)
        have e0 : ((0 : Nat) : Int) = 0 := rfl
        rw [e0] at hfr
        have HFR := Lib.hid hfr
        have hfw : f.want = r3 := by rw [hf]
        have HFF := Lib.hid hf
        have HKS := Lib.hid (And.intro hks (And.intro hkl hql))
        have HFW := Lib.hid hfw
        have hs1 : ((0 : Nat) : Int) - 1 = -1 := rfl
        have HBWR : Hid (Below w1.heap.size w1 wr) := Lib.hid (by
          have a1 := HBF7.out.trans (HB8.out.mono HBF7.out.size)
          have a2 := a1.trans (HOW8.out.below (B := w1.heap.size) (by omega) (by simp) a1.size)
          have a3 := a2.trans (HOM.out.below (B := w1.heap.size) (by omega) (by simp) a2.size)
          exact a3.trans (HOQ.out.below (B := w1.heap.size) (by omega) (by simp) a3.size))
        have hbx0 : ∀ X, (fromL r3 lvs 0 0).1 = X → boxesR ⟨b, d, t, u, s, ps⟩ (bodies O) gl = boxesX (bodies L) P X := fun X hX => by
          unfold boxesR
          rw [if_neg (by rw [bodies_length]; exact fun h => h HOK.out), if_neg (by
            rintro ⟨g, hg, e⟩
            refine HL.out.2 (symG g) ?_ e
            rw [HGS.out]; exact List.mem_map.2 ⟨g, hg, rfl⟩)]
          simp only
          rw [HW3.out, ← HGS.out, HPN.out.1, HLV.out.1, hX]
          cases X <;> rfl
        have HBX := Lib.hid hbx0
        clear hbx0
        have HDW : Hid (wr.heap[D]? = some (.deferred (some []))) := Lib.hid (by
          have hDl := (Array.getElem?_eq_some_iff.1 HKD.out).1
          exact (HOQ.out.block D (by rw [HSM.out]; omega) (by omega) (by simp)).trans ((HOM.out.block D hDl (by omega) (by simp)).trans HKD.out))
        have hcpr := (HQM.out _ HOQ.out).2.2
        rw [hs1]
        clear hks hkl hql hcap hf hbG hfpl hfqs hfms htop hfr e0 hfw hs1
        go_wp2_with fail
        refine HFR.out.mono ?_
        rintro e wf ⟨HFB2, HOF, hres⟩
        rw [HFW.out] at hres
        have HBWF : Hid (Below w1.heap.size w1 wf) := Lib.hid (HBWR.out.trans (HOF.out.below (B := w1.heap.size) (by omega) (by simp) HBWR.out.size))
        have hDf : D < wf.heap.size := by have := (Array.getElem?_eq_some_iff.1 HDW.out).1; have := HOF.out.size; omega
        have HDE : Hid (∀ V, Below wf.heap.size wf V → V.heap[D]? = some (.deferred (some []))) := Lib.hid fun V hV => (hV.block D hDf).trans ((HOF.out.block D (Array.getElem?_eq_some_iff.1 HDW.out).1 (by omega) (by simp)).trans HDW.out)
        have HBE : Hid (∀ V, Below wf.heap.size wf V → Below w1.heap.size w1 (V.putObj D (.deferred none))) := Lib.hid fun V hV => by
          have h1 := HBWF.out.trans (hV.mono HBWF.out.size)
          exact h1.grown (grownBy_putObj' V D (.deferred none)) h1.size (fun k e => by cases e; omega)
        rcases hres with ⟨hno, rfl⟩ | ⟨A9, R, c9, hsome, rfl, HDR⟩
        · have HNO := Lib.hid (HBX.out _ hno)
          clear hno
          go_wp2_with fail
          refine leaveM_mark (.tuple #[.slice none 0 0, .int .i64 4]) (HDE.out _ (Below.refl _ _)) (fun w' => by simp [results, Try.f10, go_sem]) ?_
          rw [HNO.out]
          exact ⟨none, [], 0, rfl, rfl, Lib.hid ((HK2.out.step (HBE.out _ (Below.refl _ _))).weaken fun _ h => ⟨⟨Items.nil_ _ _ _, by simp⟩, h.2⟩)⟩
        · have HNO := Lib.hid (HBX.out _ hsome)
          have HSOME := Lib.hid hsome
          clear hsome
          by_cases hbig : 4096 < R.length
          · have hbi : (R.length : Int) > 4096 := by omega
            go_wp2_with fail
            refine leaveM_mark (.tuple #[.slice none 0 0, .int .i64 4]) (HDE.out _ (Below.refl _ _)) (fun w' => by simp [results, Try.f10, go_sem]) ?_
            have HNO2 : boxesR ⟨b, d, t, u, s, ps⟩ (bodies O) gl = (4, []) := by
              refine HNO.out.trans ?_
              show (if 4096 < (bodies2 R).length then _ else _) = _
              rw [if_pos (by rw [bodies2_length]; exact hbig)]
            rw [HNO2]
            exact ⟨none, [], 0, rfl, rfl, Lib.hid ((HK2.out.step (HBE.out _ (Below.refl _ _))).weaken fun _ h => ⟨⟨Items.nil_ _ _ _, by simp⟩, h.2⟩)⟩
          · have hbi : ¬ (R.length : Int) > 4096 := by omega
            have hRl : R.length ≤ 4096 := by omega
            have HNO2 : Hid (boxesR ⟨b, d, t, u, s, ps⟩ (bodies O) gl = (0, (bodies2 R).map (boxOf (bodies L) P))) := Lib.hid (by
              refine HNO.out.trans ?_
              show (if 4096 < (bodies2 R).length then _ else _) = _
              rw [if_neg (by rw [bodies2_length]; omega)])
            have HTO : Hid (∀ r ∈ bodies2 R, rowOk lvs r) := Lib.hid (by
              have h1 : fromL r3 lvs 0 0 = (some (bodies2 R), (fromL r3 lvs 0 0).2) := by rw [← HSOME.out]
              exact (fromL_tells r3 lvs 0 0 _ _ h1 HLVF.out.ok (fun l hl => by have h2 := topS_mem HLVF.out.ok hl; have h3 := HLVF.out.top; omega)).ok)
            obtain ⟨st, hst⟩ : ∃ z, (fromL f.want lvs 0 0).2 = z := ⟨_, rfl⟩
            rw [hst] at HFB2
            have hsize : wr.heap.size ≤ wf.heap.size := HOF.out.size
            have HKF : Hid (St wf wf (fun V => RowsX A9 R V ∧ FdW f V ∧ FdBox (sb + 1) f st V ∧ V.cell? ⟨sb + 1 + 1, 0, none⟩ = some (.pointer (some ⟨sb + 1, 0, none⟩)))) := Lib.hid (St.start fun V hV =>
              ⟨HDR.out V fun k _ hl => hV.block k hl, (HOF.out.dep HDF.out) V fun k _ hl => hV.block k hl, (hV.block (sb + 1) (by omega)).trans HFB2.out, (hV.cell (by show sb + 1 + 1 < wf.heap.size; have := lt_of_cell hcpr; omega)).trans (HOF.out.cell hcpr (by show sb + 1 + 1 ≠ sb + 1; omega))⟩)
            have hf1 := HFF.out
            have HFL : Hid (∀ V, Below wf.heap.size wf V → (V.cell? ⟨sb + 1 + 1, 0, none⟩ = some (.pointer (some ⟨sb + 1, 0, none⟩)) ∧ V.cell? ⟨sb + 1, 1, none⟩ = some (.slice A2 L.length c2) ∧ V.cell? ⟨sb + 1, 2, none⟩ = some (.slice pa n pc)) ∧ LLx A2 L V ∧ IntsAt pa ks V ∧ RowsX A9 R V) := Lib.hid fun V hV => by
              obtain ⟨h1, h2, h3, h4⟩ := (HKF.out.step hV).now
              have h5 := h2.gs
              have h6 := h2.pl
              have h7 : V.cell? ⟨sb + 1, 1, none⟩ = some (.slice f.ga f.gs.length f.gc) := h3.cell rfl
              have h8 : V.cell? ⟨sb + 1, 2, none⟩ = some (.slice f.pa f.pl.length f.pc) := h3.cell rfl
              rw [hf1] at h5 h6 h7 h8
              have e : ks.length = n := HKS.out.2.1
              simp only at h7 h8
              rw [e] at h8
              exact ⟨⟨h4, h7, h8⟩, h5, h6, h1⟩
            have hcpf := (HFL.out _ (Below.refl _ _)).1.1
            clear hf1 hst hbig
            go_wp2_with fail
            go_loopw [23, 230] (fun ov iv wq => ∃ (i : Nat) (Ao : Option Addr) (co : Nat) (OL : List RowI), i ≤ R.length ∧ iv = .int .i64 i ∧ OL.length = i ∧ ov = .slice Ao OL.length co ∧ Hid (bodies2 OL = ((bodies2 R).take i).map (boxOf (bodies L) P)) ∧ Hid (GoRow wf.heap.size 25 1 rwC rwR Ao co OL wq) ∧ Hid (Below wf.heap.size wf wq)) (fun _ iv _ => R.length - (intOf iv).toNat)
            case atStart => exact ⟨0, none, 0, [], Nat.zero_le _, rfl, rfl, rfl, Lib.hid rfl, Lib.hid (GoRow.nil_ _ _ _ _ _ _), Lib.hid (Below.refl _ _)⟩
            case round =>
            obtain ⟨i, Ao, co, OL, hi, rfl, hOl, rfl, HOL, HGO, HBQ⟩ := hrel
            by_cases hiR : i < R.length
            · obtain ⟨wo, hwo⟩ : ∃ V, V = wr := ⟨_, rfl⟩
              subst hwo
              have HBO := HBQ
              have HHO := HOL
              obtain ⟨⟨hcp, hc1, hc2⟩, hll, hpi, hrx⟩ := HFL.out _ HBO.out
              obtain ⟨rb, ro, ra, rc, rl, hA9, hRi, hbi2, hcr, hlr⟩ := hrx.at_ hiR
              subst hA9
              have hro : rowOk lvs (bodies rl) := HTO.out _ (List.mem_of_getElem? hbi2)
              have hrl : rl.length = n := by have h := rowOk_len hro; rw [bodies_length, HLV.out.2] at h; exact h
              have HRO := Lib.hid hro
              have HBI := Lib.hid hbi2
              have HLR : Hid (∀ V, Below wf.heap.size wf V → LLx ra rl V) := Lib.hid fun V hV => by
                have h := (HFL.out V hV).2.2.2
                exact (h.1.cell hRi).2
              have hLl : L.length ≤ 1048576 := by rw [HLI.out]; exact hlo
              have hmk2 : ∀ w : World, (Instr.makeSlice 25 (.int .i64 (L.length : Int)) (.int .i64 (L.length : Int))).run Try.prog w = .ok (.slice (some ⟨w.heap.size, 0, none⟩) L.length L.length) (w.alloc (.cells (madeCells #[.slice none 0 0] L.length) 26)) := fun w => run_make_row' 25 26 (.slice none 0 0) 24 Try.underlying25 infoHdy rfl .i64 .i64 L.length (by omega) (by omega) w
              have hcp3 := cellAlloc (.cells (madeCells #[.slice none 0 0] L.length) 26) hcp
              have hc13 := cellAlloc (.cells (madeCells #[.slice none 0 0] L.length) 26) hc1
              have hRW := RwB.start wo L.length
              have hBW := (Below.refl wo.heap.size wo).alloc (Nat.le_refl _) (.cells (madeCells #[.slice none 0 0] L.length) 26)
              obtain ⟨bb, hbb⟩ : ∃ z, wo.heap.size = z := ⟨_, rfl⟩
              obtain ⟨w3, hw3⟩ : ∃ V, wo.alloc (.cells (madeCells #[.slice none 0 0] L.length) 26) = V := ⟨_, rfl⟩
              rw [hw3] at hRW hBW hcp3 hc13
              rw [hbb] at hRW
              have HRW3 := Lib.hid hRW
              have HBW3 := Lib.hid hBW
              have HBB := Lib.hid hbb
              have HW3 := Lib.hid hw3
              have hri : (i : Int) < (R.length : Int) := by omega
              have HOLX := Lib.hid hOl
              have HRLN := Lib.hid hrl
              clear hro hbi2 hll hpi hrx hlr hRW hBW hrl hOl
              go_wp2_with fail
              clear hcp3 hc13 hbb hw3
              go_loopw [245] (fun iv wq => ∃ (j : Nat) (Bi : List (Item Sp)), j ≤ L.length ∧ iv = .int .i64 j ∧ Hid (bodies Bi = (bodies L).take j ++ List.replicate (L.length - j) []) ∧ Hid (RwB bb bb Bi wq) ∧ Hid (Below bb wo wq)) (fun iv _ => L.length - (intOf iv).toNat)
              case atStart => exact ⟨0, _, Nat.zero_le _, rfl, Lib.hid (by simp [bodies]), HRW3, by rw [← HBB.out]; exact HBW3⟩
              case round =>
              obtain ⟨j, Bi, hj, rfl, HBD, HRW, HBJ⟩ := hrel
              have HBF : Hid (Below wf.heap.size wf wr) := Lib.hid (HBO.out.trans (HBJ.out.mono (by have h1 := HBO.out.size; have h2 := HBB.out; omega)))
              have hBl : Bi.length = L.length := by
                have h := congrArg List.length HBD.out
                rw [bodies_length, List.length_append, List.length_take, List.length_replicate, bodies_length] at h; omega
              have hbbs : bb ≤ wr.heap.size := by have h1 := HBJ.out.size; have h2 := HBB.out; omega
              by_cases hjl : j < L.length
              · obtain ⟨gb, go, ga, gc, g, hA2, hLx, hgb, hcg, hlg⟩ := (HFL.out _ HBF.out).2.1.at_ hjl
                subst hA2
                have HPL : Hid (Plain g) := Lib.hid (HPTS.out.gs g (List.mem_of_getElem? hgb)).1
                have HKG : Hid (St wr wr (Lst ga g)) := Lib.hid (St.start fun V hV => hlg.below hV)
                have HGB := Lib.hid hgb
                have hji : (j : Int) < (L.length : Int) := by omega
                have HBL := Lib.hid hBl
                clear hlg hLx hgb hBl
                go_wp2_with (go_at_call 38; refine (Clone_stN HKG (fun _ h => h) HPL.out gc).mono ?_; rintro e w7 ⟨A7, c7, rfl, HO7, HK7, HB7⟩; obtain ⟨vb, hvb, hfb⟩ := (HRW.out.below HB7.out).cell (i := j) (by rw [HBL.out]; omega))
                exact ⟨⟨j + 1, Bi.set j (A7, c7, g), by omega, by go_num, Lib.hid (by
                  have h := fill_set HGB.out
                  rw [bodies_length] at h
                  rw [← h, ← HBD.out]
                  unfold bodies; rw [List.map_set]), Lib.hid (HRW.out.set hbbs HB7.out (own_dep HO7.out HPL.out)), Lib.hid ((HBJ.out.trans (HB7.out.mono hbbs)).setCell (p := ⟨bb, j, none⟩) (Nat.le_refl _) _)⟩, by simp [intOf]; omega⟩
              · obtain rfl : j = L.length := by omega
                have hdd : decide ((L.length : Int) < (L.length : Int)) = false := by simp
                have HBD2 : Hid (bodies Bi = boxOf (bodies L) (P.take 0) ((bodies rl).take 0)) := Lib.hid (by
                  rw [HBD.out, Nat.sub_self, List.take_of_length_le (by rw [bodies_length]; exact Nat.le_refl _)]
                  simp [boxOf])
                have HBL := Lib.hid hBl
                clear hBl
                go_wp2_with fail
                go_loopw [258] (fun iv wq => ∃ (k : Nat) (Bi : List (Item Sp)), k ≤ n ∧ iv = .int .i64 k ∧ Hid (bodies Bi = boxOf (bodies L) (P.take k) ((bodies rl).take k)) ∧ Hid (RwB bb bb Bi wq) ∧ Hid (Below bb wo wq)) (fun iv _ => n - (intOf iv).toNat)
                case atStart => exact ⟨0, Bi, Nat.zero_le _, rfl, HBD2, HRW, HBJ⟩
                case round =>
                obtain ⟨k, Bk, hk, rfl, HBDk, HRK, HBK⟩ := hrel
                have HBF2 : Hid (Below wf.heap.size wf wr) := Lib.hid (HBO.out.trans (HBK.out.mono (by have h1 := HBO.out.size; have h2 := HBB.out; omega)))
                have hBkl : Bk.length = L.length := by
                  have h := congrArg List.length HBDk.out
                  rw [bodies_length, boxOf_len, bodies_length] at h; exact h
                have hbbk : bb ≤ wr.heap.size := by have h1 := HBK.out.size; have h2 := HBB.out; omega
                have HBKL := Lib.hid hBkl
                by_cases hkn : k < n
                · obtain ⟨q, hq⟩ : ∃ q, P[k]? = some q := ⟨_, List.getElem?_eq_getElem (by rw [HPN.out.2.1]; exact hkn)⟩
                  obtain ⟨hq0, hq1, _⟩ := HPTS.out.q (q := q) (by rw [HPN.out.1]; exact List.mem_of_getElem? hq)
                  obtain ⟨xi, hxe⟩ := Int.eq_ofNat_of_zero_le hq0
                  have hxl : xi < L.length := by rw [bodies_length] at hq1; rw [hxe] at hq1; exact hq1
                  obtain ⟨⟨hcp, _, hc2⟩, _, hpi, _⟩ := HFL.out _ HBF2.out
                  have hkey : ks[k]? = some (xi : Int) := by rw [← HKS.out.1, List.getElem?_map, hq, ← hxe]; rfl
                  obtain ⟨pb, po, key, hpa, hkey2, _, hcpk⟩ := hpi.at_ (j := k) (by rw [HKS.out.2.1]; exact hkn)
                  obtain rfl : key = (xi : Int) := by rw [hkey] at hkey2; injection hkey2 with e; exact e.symm
                  obtain ⟨sgb, sgo, sa, sc, sl, hra, hsx, hsb, hcs, hls⟩ := (HLR.out _ HBF2.out).at_ (k := k) (by rw [HRLN.out]; exact hkn)
                  have HPL : Hid (Plain sl) := Lib.hid ((rowOk_at (G := bodies L) (L := P) (by rw [HLV.out.1]; exact HRO.out)).2 k q sl hq hsb).1
                  have HSN : Hid (boxOf (bodies L) (P.take (k + 1)) ((bodies rl).take (k + 1)) = (boxOf (bodies L) (P.take k) ((bodies rl).take k)).set xi sl) := Lib.hid (by
                    have h := boxOf_snoc k P (bodies rl) (bodies L) q sl hq hsb
                    rw [h, hxe]; rfl)
                  have HKG : Hid (St wr.drew wr.drew (Lst sa sl)) := Lib.hid (St.start fun V hV => hls.below ((Below.refl _ wr).drew.trans hV))
                  subst hpa
                  subst hra
                  have hki : (k : Int) < (n : Int) := by omega
                  have hrln : (k : Int) < (rl.length : Int) := by rw [HRLN.out]; exact hki
                  have hxin : (xi : Int) < (L.length : Int) := by omega
                  clear hq hq0 hq1 hxe hpi hkey hkey2 hsx hsb hls hBkl
                  go_wp2_with fail
                  refine wp_region_ZN 11 (by kernel_rfl) (fun V => V.cell? ⟨sb + 1 + 1, 0, none⟩ = some (.pointer (some ⟨sb + 1, 0, none⟩)) ∧ V.cell? ⟨sb + 1, 2, none⟩ = some (.slice (some ⟨pb, po, none⟩) n pc) ∧ V.cell? ⟨pb, po + k, none⟩ = some (.int .i64 (xi : Int))) ⟨hcp, hc2, hcpk⟩ (fun hHeld => ?_)
                  refine wpAnyZ_take (i := 0) (v := ?_) rfl (by kernel_rfl) (by kernel_rfl) (by kernel_rfl) (by kernel_rfl) (fun _ _ _ h => h) (Or.inl ⟨by first | kernel_rfl | rfl, ?_⟩) (by assumption) ?_
                  rotate_left
                  · intro w hSw; (try dsimp only at hSw); go_simp; (try with_reducible rfl)
                  (try simp only [Act.put, List.getElem_toArray, List.getElem_cons_succ, List.getElem_cons_zero, List.setIfInBounds_toArray, List.set_cons_zero, List.set_cons_succ])
                  refine wpAnyZ_take (i := 1) (v := ?_) rfl (by kernel_rfl) (by kernel_rfl) (by kernel_rfl) (by kernel_rfl) (fun _ _ _ h => h) (Or.inl ⟨by first | kernel_rfl | rfl, ?_⟩) (by assumption) ?_
                  rotate_left
                  · intro w hSw; (try dsimp only at hSw); go_simp; (try with_reducible rfl)
                  (try simp only [Act.put, List.getElem_toArray, List.getElem_cons_succ, List.getElem_cons_zero, List.setIfInBounds_toArray, List.set_cons_zero, List.set_cons_succ])
                  refine wpAnyZ_take (i := 2) (v := ?_) rfl (by kernel_rfl) (by kernel_rfl) (by kernel_rfl) (by kernel_rfl) (fun _ _ _ h => h) (Or.inl ⟨by first | kernel_rfl | rfl, ?_⟩) (by assumption) ?_
                  rotate_left
                  · intro w hSw; (try dsimp only at hSw); go_simp; (try with_reducible rfl)
                  (try simp only [Act.put, List.getElem_toArray, List.getElem_cons_succ, List.getElem_cons_zero, List.setIfInBounds_toArray, List.set_cons_zero, List.set_cons_succ])
                  refine wpAnyZ_take (i := 3) (v := ?_) rfl (by kernel_rfl) (by kernel_rfl) (by kernel_rfl) (by kernel_rfl) (fun _ _ _ h => h) (Or.inl ⟨by first | kernel_rfl | rfl, ?_⟩) (by assumption) ?_
                  rotate_left
                  · intro w hSw; (try dsimp only at hSw); go_simp; (try with_reducible rfl)
                  (try simp only [Act.put, List.getElem_toArray, List.getElem_cons_succ, List.getElem_cons_zero, List.setIfInBounds_toArray, List.set_cons_zero, List.set_cons_succ])
                  refine wpAnyZ_take (i := 4) (v := ?_) rfl (by kernel_rfl) (by kernel_rfl) (by kernel_rfl) (by kernel_rfl) (fun _ _ _ h => h) (Or.inl ⟨by first | kernel_rfl | rfl, ?_⟩) (by assumption) ?_
                  rotate_left
                  · intro w hSw; (try dsimp only at hSw); go_simp; (try with_reducible rfl)
                  (try simp only [Act.put, List.getElem_toArray, List.getElem_cons_succ, List.getElem_cons_zero, List.setIfInBounds_toArray, List.set_cons_zero, List.set_cons_succ])
                  refine wpAnyZ_take (i := 5) (v := ?_) rfl (by kernel_rfl) (by kernel_rfl) (by kernel_rfl) (by kernel_rfl) (fun _ _ _ h => h) (Or.inl ⟨by first | kernel_rfl | rfl, ?_⟩) (by assumption) ?_
                  rotate_left
                  · intro w hSw; (try dsimp only at hSw); go_simp; (try with_reducible rfl)
                  (try simp only [Act.put, List.getElem_toArray, List.getElem_cons_succ, List.getElem_cons_zero, List.setIfInBounds_toArray, List.set_cons_zero, List.set_cons_succ])
                  refine wpAnyZ_take (i := 6) (v := ?_) rfl (by kernel_rfl) (by kernel_rfl) (by kernel_rfl) (by kernel_rfl) (fun _ _ _ h => h) (Or.inl ⟨by first | kernel_rfl | rfl, ?_⟩) (by assumption) ?_
                  rotate_left
                  · intro w hSw; (try dsimp only at hSw); go_simp; (try with_reducible rfl)
                  (try simp only [Act.put, List.getElem_toArray, List.getElem_cons_succ, List.getElem_cons_zero, List.setIfInBounds_toArray, List.set_cons_zero, List.set_cons_succ])
                  refine wpAnyZ_take (i := 7) (v := ?_) rfl (by kernel_rfl) (by kernel_rfl) (by kernel_rfl) (by kernel_rfl) (fun _ _ _ h => h) (Or.inl ⟨by first | kernel_rfl | rfl, ?_⟩) (by assumption) ?_
                  rotate_left
                  · intro w hSw; (try dsimp only at hSw); go_simp; (try with_reducible rfl)
                  (try simp only [Act.put, List.getElem_toArray, List.getElem_cons_succ, List.getElem_cons_zero, List.setIfInBounds_toArray, List.set_cons_zero, List.set_cons_succ])
                  refine wpAnyZ_take (i := 8) (v := ?_) rfl (by kernel_rfl) (by kernel_rfl) (by kernel_rfl) (by kernel_rfl) (fun _ _ _ h => h) (Or.inl ⟨by first | kernel_rfl | rfl, ?_⟩) (by assumption) ?_
                  rotate_left
                  · intro w hSw; (try dsimp only at hSw); go_simp; (try with_reducible rfl)
                  (try simp only [Act.put, List.getElem_toArray, List.getElem_cons_succ, List.getElem_cons_zero, List.setIfInBounds_toArray, List.set_cons_zero, List.set_cons_succ])
                  refine wpAnyZ_ready (i := 9) (by kernel_rfl) rfl (fun K hK => ?_)
                  go_simp
                  refine (Clone_stN HKG (fun _ h => h) HPL.out sc).mono ?_
                  rintro e w7 ⟨A7, c7, rfl, HO7, HK7, HB7⟩
                  have hb7 : Below wr.heap.size wr w7 := (Below.refl _ wr).drew.trans HB7.out
                  have HB7' := Lib.hid hb7
                  obtain ⟨vb, hvb, hfb⟩ := (HRK.out.below hb7).cell (i := xi) (by rw [HBKL.out]; exact hxl)
                  refine hK.out _ _ (⟨(hb7.cell (lt_of_cell hcp)).trans hcp, (hb7.cell (lt_of_cell hc2)).trans hc2, (hb7.cell (lt_of_cell hcpk)).trans hcpk⟩) (fun hHeld => ?_)
                  clear hK K
                  (try simp only [Act.put, List.getElem_toArray, List.getElem_cons_succ, List.getElem_cons_zero, List.setIfInBounds_toArray, List.set_cons_zero, List.set_cons_succ])
                  refine wpAnyZ_take (i := 10) (v := ?_) rfl (by kernel_rfl) (by kernel_rfl) (by kernel_rfl) (by kernel_rfl) (fun _ _ _ h => h) (Or.inl ⟨by first | kernel_rfl | rfl, ?_⟩) (by assumption) ?_
                  rotate_left
                  · intro w hSw; (try dsimp only at hSw); go_simp; (try with_reducible rfl)
                  (try simp only [Act.put, List.getElem_toArray, List.getElem_cons_succ, List.getElem_cons_zero, List.setIfInBounds_toArray, List.set_cons_zero, List.set_cons_succ])
                  refine wpAnyZ_last (i := 11) rfl (by kernel_rfl) (by kernel_rfl) rfl (fun K hK => ?_)
                  go_simp
                  refine hK.out _ _ ?_
                  refine NoPanic.normal ?_
                  clear hK K hHeld hcp hc2 hcpk hb7 hvb hfb
                  go_wp2_with fail
                  exact ⟨⟨k + 1, Bk.set xi (A7, c7, sl), by omega, by go_num, Lib.hid (by
                    rw [HSN.out, ← HBDk.out]
                    unfold bodies; rw [List.map_set]), Lib.hid (HRK.out.set hbbk HB7'.out (own_dep HO7.out HPL.out)), Lib.hid ((HBK.out.trans (HB7'.out.mono hbbk)).setCell (p := ⟨bb, xi, none⟩) (Nat.le_refl _) _)⟩, by simp [intOf]; omega⟩
                · have HKN : Hid (k = n) := Lib.hid (by omega)
                  have HGOr : Hid (GoRow wf.heap.size 25 1 rwC rwR Ao co OL wr) := Lib.hid (HGO.out.keep (by have h1 := HBK.out.size; exact h1) fun j _ hl => HBK.out.block j (by rw [← HBB.out]; exact hl))
                  have HOW : Hid (wr.ownsRow wf.heap.size 25 1 (.slice Ao OL.length co) OL.length (OL.flatMap rwC)) := Lib.hid HGOr.out.own
                  have hbwf : wf.heap.size ≤ bb := by have h1 := HBO.out.size; have h2 := HBB.out; omega
                  have HRX : Hid (Dep (fun k => wf.heap.size ≤ k ∧ some k ≠ ownA Ao) wr (rwR (some ⟨bb, 0, none⟩, L.length, Bk))) := Lib.hid ((HRK.out.row (Nat.le_refl _) (by rw [hBkl]; exact hLl)).mono fun j hj hl => ⟨by omega, fun e => by have h1 := (HGO.out.rlt j e.symm).2; have h2 := HBB.out; omega⟩)
                  obtain ⟨i0, hi0, hz0, hz1, hz2⟩ := info_parts infoHdx2
                  have hl40 : OL.length < 1099511627776 := by have := HOLX.out; omega
                  have hszw : wf.heap.size ≤ wr.heap.size := by omega
                  have hrn2 : ¬ k < rl.length := by rw [HRLN.out]; exact hkn
                  have hrn : decide ((k : Int) < (rl.length : Int)) = false := by rw [HRLN.out, decide_eq_false_iff_not]; omega
                  clear hBkl
                  go_wp2_with (at_builtin; go_must (refine wpList_pushG rfl _ _ 30 rfl wf.heap.size 25 i0 _ 1 24 Try.underlying30 hi0 hz0 hz1 hz2 rfl (by decide) HOW.out rfl [.slice (some ⟨bb, 0, none⟩) L.length L.length] 25 rfl rfl (by simp [Value.oneCell']) hl40 (by decide) hszw ?_); intro A10 c10 w10 HO10 HG10 HN10)
                  have e1 : rwC (some ⟨bb, 0, none⟩, L.length, Bk) = [.slice (some ⟨bb, 0, none⟩) L.length L.length] := by unfold rwC ival; rw [HBKL.out]
                  have HGN := Lib.hid (HGOr.out.push (x := (some ⟨bb, 0, none⟩, L.length, Bk)) (by rw [e1]; exact HO10.out) HG10.out HN10.out HRX.out)
                  have HBN : Hid (Below wf.heap.size wf w10) := Lib.hid ((HBF2.out.alloc hszw _).grown HG10.out (by simp; omega) fun j hj => (HGOr.out.rlt j hj).1)
                  have e2 : bodies Bk = boxOf (bodies L) P (bodies rl) := by
                    rw [HBDk.out, HKN.out, List.take_of_length_le (by rw [HPN.out.2.1]; exact Nat.le_refl _), List.take_of_length_le (by rw [bodies_length, HRLN.out]; exact Nat.le_refl _)]
                  exact ⟨⟨i + 1, A10, c10, OL ++ [(some ⟨bb, 0, none⟩, L.length, Bk)], by omega, by go_num, by simp; exact HOLX.out, by simp, Lib.hid (by
                    rw [take_snoc? HBI.out, List.map_append, ← HHO.out]
                    simp [bodies2, e2]), HGN, HBN⟩, by simp [intOf]; omega⟩
            · obtain rfl : i = R.length := by omega
              have hdd : decide ((R.length : Int) < (R.length : Int)) = false := by simp
              have HOLL := Lib.hid hOl
              clear hOl
              go_wp2_with fail
              refine leaveM_mark (.tuple #[.slice Ao OL.length co, .int .i64 0]) (HDE.out _ HBQ.out) (fun w' => by simp [results, Try.f10, go_sem]) ?_
              rw [HNO2.out]
              refine ⟨Ao, OL, co, rfl, by rw [HOL.out, List.take_of_length_le (by rw [bodies2_length]; exact Nat.le_refl _)], Lib.hid ?_⟩
              have hE := HBE.out _ HBQ.out
              have hD0 := HDE.out _ HBQ.out
              have hrr := HGO.out.rows (by have := HOLL.out; omega)
              refine ⟨fun V hV => ⟨?_, ((HK2.out.step hE).1 V hV).2⟩, (HK2.out.step hE).2⟩
              have hv := hrr V fun k hk hl => by
                have hpo : (wr.putObj D (.deferred none)).heap[k]? = wr.heap[k]? := (grownBy_putObj' wr D (.deferred none)).block k hl (fun e => by injection e with e; omega)
                exact (hV.block k (by have := (grownBy_putObj' wr D (.deferred none)).size; omega)).trans hpo
              have hsl := hv.sl
              rw [rw_cells] at hsl
              exact ⟨⟨hsl, fun x hx => hv.it x hx⟩, hv.ln⟩
      | succ k =>
        obtain ⟨⟨hlw, hll, hpi, hqp⟩, hfb, hcp⟩ := HQM.out _ HOQ.out
        have hkn : k < n := by omega
        have hpl : (P.map (·.1)).length = n := by rw [List.length_map]; exact HPN.out.2.1
        obtain ⟨pb, po, key, hpa, hkey, _, _⟩ := hpi.at_ (j := k) (by omega)
        obtain ⟨qb, qo, xa, xc, xl, hqa, hxi, _, _⟩ := hqp.at_ (j := k) hkn
        obtain ⟨q, hq, hqk⟩ : ∃ q, P[k]? = some q ∧ q.1 = key := by
          rw [List.getElem?_map] at hkey
          rcases hq : P[k]? with _ | q
          · rw [hq] at hkey; cases hkey
          · rw [hq] at hkey; injection hkey with hkey; exact ⟨q, rfl, hkey⟩
        have hxq : xl = q.2 := by
          have := congrArg (fun l => l[k]?) HQI.out
          simp only [bodies, List.getElem?_map, hxi, hq, Option.map_some] at this
          injection this
        obtain ⟨hq0, hq1, hqb⟩ := HPTS.out.q (q := q) (by rw [HPN.out.1]; exact List.mem_of_getElem? hq)
        obtain ⟨xi, hxe⟩ := Int.eq_ofNat_of_zero_le hq0
        rw [hqk] at hxe
        have hxl : xi < L.length := by rw [bodies_length] at hq1; rw [hqk, hxe] at hq1; exact hq1
        obtain ⟨gb, go, ga, gc, g, hga, hLx, hgb, _, _⟩ := hll.at_ hxl
        have hgd : (bodies L).getD q.1.toNat [] = g := by rw [hqk, hxe, Int.toNat_natCast, List.getD_eq_getElem?_getD, hgb]; rfl
        obtain ⟨k1, hk1⟩ : ∃ z, k + 1 = z := ⟨_, rfl⟩
        obtain ⟨v1, hv1⟩ : ∃ z, topS (lvs.drop k1) = z := ⟨_, rfl⟩
        have hv1b : 0 ≤ v1 ∧ v1 ≤ 268435456 := by
          have h := HPTS.out.top k1
          rw [HPN.out.1, HLV.out.1, hv1] at h; exact h
        have HTOP : Hid (topS (lvs.drop k) = v1 + (xl.map fun p => topP p g).sum) := Lib.hid (by
          have h := topS_at (G := bodies L) hq
          rw [HLV.out.1, hgd, hk1, hv1] at h
          rw [hxq]; exact h)
        subst hpa hqa hga
        subst hxe
        have HST : Hid (∀ V, Only mb none wm V → (V.cell? ⟨sb + 1 + 1, 0, none⟩ = some (.pointer (some ⟨sb + 1, 0, none⟩)) ∧ V.cell? ⟨sb + 1, 1, none⟩ = some (.slice (some ⟨gb, go, none⟩) L.length c2) ∧ V.cell? ⟨sb + 1, 2, none⟩ = some (.slice (some ⟨pb, po, none⟩) n pc) ∧ V.cell? ⟨sb + 1, 3, none⟩ = some (.slice (some ⟨qb, qo, none⟩) n qc) ∧ V.cell? ⟨sb + 1, 4, none⟩ = some (.slice (some ⟨mb, 0, none⟩) n1 n1)) ∧
            (V.cell? ⟨pb, po + k, none⟩ = some (.int .i64 (xi : Int)) ∧ V.cell? ⟨qb, qo + k, none⟩ = some (.slice xa xl.length xc) ∧ V.cell? ⟨gb, go + xi, none⟩ = some (.slice ga g.length gc)) ∧ Lst ga g V ∧ PartsAt xa xl V) := Lib.hid fun V hV => by
          obtain ⟨⟨h1, h2, h3, h4⟩, h5, h6⟩ := HQM.out V hV
          exact ⟨⟨h6, by simp [World.cell?, h5], by simp [World.cell?, h5], by simp [World.cell?, h5], by simp [World.cell?, h5]⟩, ⟨h3.cell hkey, (h4.cell hxi).1, (h2.1.cell hLx).1⟩, (h2.1.cell hLx).2, (h4.cell hxi).2⟩
        have hki : (k : Int) + 1 = (k1 : Int) := by omega
        have hkw : IntKind.i64.wrap (k1 : Int) = (k1 : Int) := IntWalk.i64_in _ (by omega)
        have hsk : ((k + 1 : Nat) : Int) - 1 = (k : Int) := by omega
        rw [hsk]
        have hmk1 : wr.cell? ⟨mb, k1, none⟩ = some (.int .i64 v1) := by
          have h := HM.out.cell (j := k1) (by omega)
          unfold msF at h
          rw [if_neg (by omega), hv1] at h; exact h
        have hmk0 : wr.cell? ⟨mb, k, none⟩ = some (.int .i64 0) := by
          have h := HM.out.cell (j := k) (by omega)
          unfold msF at h
          rw [if_pos (by omega)] at h; exact h
        have hmf0 := HM.out.frozen k
        have hc4 := (HST.out _ HOQ.out).1.2.2.2.2
        have hkn1 : (k : Int) < (n1 : Int) := by have := HPN.out.2.2; omega
        have hk1n1 : (k1 : Int) < (n1 : Int) := by have := HPN.out.2.2; omega
        have HXB : Hid (∀ p ∈ xl, bitsB p.2.1 p.2.2.1 p.2.2.2 = true) := Lib.hid (by rw [hxq]; exact hqb)
        have hxl4 : xl.length ≤ 4 := by
          have h1 := HPOK.out.small q (List.mem_of_getElem? hq)
          rw [hxq]; omega
        have HK1 := Lib.hid hk1
        have HV1 := Lib.hid hv1
        clear hlw hll hpi hqp hfb hpl hkey hxi hq hqk hxq hq0 hq1 hqb hgd hLx hgb hsk hk1 hv1
        go_wp2_with fail
        refine wp_region_ZN 14 (by kernel_rfl) (fun V => V.cell? ⟨sb + 1 + 1, 0, none⟩ = some (.pointer (some ⟨sb + 1, 0, none⟩)) ∧ V.cell? ⟨sb + 1, 4, none⟩ = some (.slice (some ⟨mb, 0, none⟩) n1 n1) ∧ V.cell? ⟨mb, k1, none⟩ = some (.int .i64 v1)) ⟨hcp, hc4, hmk1⟩ (fun hHeld => ?_)
        refine wpAnyZ_take (i := 0) (v := ?_) rfl (by kernel_rfl) (by kernel_rfl) (by kernel_rfl) (by kernel_rfl) (fun _ _ _ h => h) (Or.inl ⟨by first | kernel_rfl | rfl, ?_⟩) (by assumption) ?_
        rotate_left
        · intro w hSw; (try dsimp only at hSw); go_simp; (try with_reducible rfl)
        (try simp only [Act.put, List.getElem_toArray, List.getElem_cons_succ, List.getElem_cons_zero, List.setIfInBounds_toArray, List.set_cons_zero, List.set_cons_succ])
        refine wpAnyZ_take (i := 1) (v := ?_) rfl (by kernel_rfl) (by kernel_rfl) (by kernel_rfl) (by kernel_rfl) (fun _ _ _ h => h) (Or.inl ⟨by first | kernel_rfl | rfl, ?_⟩) (by assumption) ?_
        rotate_left
        · intro w hSw; (try dsimp only at hSw); go_simp; (try with_reducible rfl)
        (try simp only [Act.put, List.getElem_toArray, List.getElem_cons_succ, List.getElem_cons_zero, List.setIfInBounds_toArray, List.set_cons_zero, List.set_cons_succ])
        refine wpAnyZ_take (i := 2) (v := ?_) rfl (by kernel_rfl) (by kernel_rfl) (by kernel_rfl) (by kernel_rfl) (fun _ _ _ h => h) (Or.inl ⟨by first | kernel_rfl | rfl, ?_⟩) (by assumption) ?_
        rotate_left
        · intro w hSw; (try dsimp only at hSw); go_simp; (try with_reducible rfl)
        (try simp only [Act.put, List.getElem_toArray, List.getElem_cons_succ, List.getElem_cons_zero, List.setIfInBounds_toArray, List.set_cons_zero, List.set_cons_succ])
        refine wpAnyZ_take (i := 3) (v := ?_) rfl (by kernel_rfl) (by kernel_rfl) (by kernel_rfl) (by kernel_rfl) (fun _ _ _ h => h) (Or.inl ⟨by first | kernel_rfl | rfl, ?_⟩) (by assumption) ?_
        rotate_left
        · intro w hSw; (try dsimp only at hSw); go_simp; (try with_reducible rfl)
        (try simp only [Act.put, List.getElem_toArray, List.getElem_cons_succ, List.getElem_cons_zero, List.setIfInBounds_toArray, List.set_cons_zero, List.set_cons_succ])
        refine wpAnyZ_take (i := 4) (v := ?_) rfl (by kernel_rfl) (by kernel_rfl) (by kernel_rfl) (by kernel_rfl) (fun _ _ _ h => h) (Or.inl ⟨by first | kernel_rfl | rfl, ?_⟩) (by assumption) ?_
        rotate_left
        · intro w hSw; (try dsimp only at hSw); go_simp; (try with_reducible rfl)
        (try simp only [Act.put, List.getElem_toArray, List.getElem_cons_succ, List.getElem_cons_zero, List.setIfInBounds_toArray, List.set_cons_zero, List.set_cons_succ])
        refine wpAnyZ_take (i := 5) (v := ?_) rfl (by kernel_rfl) (by kernel_rfl) (by kernel_rfl) (by kernel_rfl) (fun _ _ _ h => h) (Or.inl ⟨by first | kernel_rfl | rfl, ?_⟩) (by assumption) ?_
        rotate_left
        · intro w hSw; (try dsimp only at hSw); go_simp; (try with_reducible rfl)
        (try simp only [Act.put, List.getElem_toArray, List.getElem_cons_succ, List.getElem_cons_zero, List.setIfInBounds_toArray, List.set_cons_zero, List.set_cons_succ])
        refine wpAnyZ_take (i := 6) (v := ?_) rfl (by kernel_rfl) (by kernel_rfl) (by kernel_rfl) (by kernel_rfl) (fun _ _ _ h => h) (Or.inl ⟨by first | kernel_rfl | rfl, ?_⟩) (by assumption) ?_
        rotate_left
        · intro w hSw; (try dsimp only at hSw); go_simp; (try with_reducible rfl)
        (try simp only [Act.put, List.getElem_toArray, List.getElem_cons_succ, List.getElem_cons_zero, List.setIfInBounds_toArray, List.set_cons_zero, List.set_cons_succ])
        refine wpAnyZ_take (i := 7) (v := ?_) rfl (by kernel_rfl) (by kernel_rfl) (by kernel_rfl) (by kernel_rfl) (fun _ _ _ h => h) (Or.inl ⟨by first | kernel_rfl | rfl, ?_⟩) (by assumption) ?_
        rotate_left
        · intro w hSw; (try dsimp only at hSw); go_simp; (try with_reducible rfl)
        (try simp only [Act.put, List.getElem_toArray, List.getElem_cons_succ, List.getElem_cons_zero, List.setIfInBounds_toArray, List.set_cons_zero, List.set_cons_succ])
        refine wpAnyZ_take (i := 8) (v := ?_) rfl (by kernel_rfl) (by kernel_rfl) (by kernel_rfl) (by kernel_rfl) (fun _ _ _ h => h) (Or.inl ⟨by first | kernel_rfl | rfl, ?_⟩) (by assumption) ?_
        rotate_left
        · intro w hSw; (try dsimp only at hSw); go_simp; (try with_reducible rfl)
        (try simp only [Act.put, List.getElem_toArray, List.getElem_cons_succ, List.getElem_cons_zero, List.setIfInBounds_toArray, List.set_cons_zero, List.set_cons_succ])
        refine wpAnyZ_take (i := 9) (v := ?_) rfl (by kernel_rfl) (by kernel_rfl) (by kernel_rfl) (by kernel_rfl) (fun _ _ _ h => h) (Or.inl ⟨by first | kernel_rfl | rfl, ?_⟩) (by assumption) ?_
        rotate_left
        · intro w hSw; (try dsimp only at hSw); go_simp; (try with_reducible rfl)
        (try simp only [Act.put, List.getElem_toArray, List.getElem_cons_succ, List.getElem_cons_zero, List.setIfInBounds_toArray, List.set_cons_zero, List.set_cons_succ])
        refine wpAnyZ_take (i := 10) (v := ?_) rfl (by kernel_rfl) (by kernel_rfl) (by kernel_rfl) (by kernel_rfl) (fun _ _ _ h => h) (Or.inl ⟨by first | kernel_rfl | rfl, ?_⟩) (by assumption) ?_
        rotate_left
        · intro w hSw; (try dsimp only at hSw); go_simp; (try with_reducible rfl)
        (try simp only [Act.put, List.getElem_toArray, List.getElem_cons_succ, List.getElem_cons_zero, List.setIfInBounds_toArray, List.set_cons_zero, List.set_cons_succ])
        refine wpAnyZ_take (i := 11) (v := ?_) rfl (by kernel_rfl) (by kernel_rfl) (by kernel_rfl) (by kernel_rfl) (fun _ _ _ h => h) (Or.inl ⟨by first | kernel_rfl | rfl, ?_⟩) (by assumption) ?_
        rotate_left
        · intro w hSw; (try dsimp only at hSw); go_simp; (try with_reducible rfl)
        (try simp only [Act.put, List.getElem_toArray, List.getElem_cons_succ, List.getElem_cons_zero, List.setIfInBounds_toArray, List.set_cons_zero, List.set_cons_succ])
        refine wpAnyZ_take (i := 12) (v := ?_) rfl (by kernel_rfl) (by kernel_rfl) (by kernel_rfl) (by kernel_rfl) (fun _ _ _ h => h) (Or.inl ⟨by first | kernel_rfl | rfl, ?_⟩) (by assumption) ?_
        rotate_left
        · intro w hSw; (try dsimp only at hSw); go_simp; (try with_reducible rfl)
        (try simp only [Act.put, List.getElem_toArray, List.getElem_cons_succ, List.getElem_cons_zero, List.setIfInBounds_toArray, List.set_cons_zero, List.set_cons_succ])
        refine wpAnyZ_take (i := 13) (v := ?_) rfl (by kernel_rfl) (by kernel_rfl) (by kernel_rfl) (by kernel_rfl) (fun _ _ _ h => h) (Or.inl ⟨by first | kernel_rfl | rfl, ?_⟩) (by assumption) ?_
        rotate_left
        · intro w hSw; (try dsimp only at hSw); go_simp; (try with_reducible rfl)
        (try simp only [Act.put, List.getElem_toArray, List.getElem_cons_succ, List.getElem_cons_zero, List.setIfInBounds_toArray, List.set_cons_zero, List.set_cons_succ])
        refine wpAnyZ_last (i := 14) rfl (by kernel_rfl) (by kernel_rfl) rfl (fun K hK => ?_)
        go_simp
        refine hK.out _ _ ?_
        refine NoPanic.normal ?_
        clear hK K hHeld
        have hv1' : v1 = v1 + ((xl.take 0).map fun p => topP p g).sum := by simp
        obtain ⟨wi, hwi⟩ : ∃ V, (wr.setCell ⟨mb, k, none⟩ (.int .i64 v1)).drew = V := ⟨_, rfl⟩
        have HMI : Hid (MsB mb n (fun j => if j = k then v1 + ((xl.take 0).map fun p => topP p g).sum else msF lvs (k + 1) j) wi) := Lib.hid (by
          have h := HM.out.set (k := k) v1
          rw [← hwi, ← hv1']; exact h)
        have HOI : Hid (Only mb none wm wi) := Lib.hid (by rw [← hwi]; exact (HOQ.out.setCell k _).drewN 1)
        obtain ⟨⟨hcp, _, _, hc3, _⟩, ⟨_, hcq, _⟩, _⟩ := HST.out _ HOI.out
        have hknn : (k : Int) < (n : Int) := by omega
        rw [hwi]
        clear hwi hv1' hmk1 hmk0 hmf0 hc4
        go_wp2_with fail
        clear hcp hc3 hcq
        go_loopw [182] (fun iv wq => ∃ i : Nat, i ≤ xl.length ∧ iv = .int .i64 i ∧ Hid (MsB mb n (fun j => if j = k then v1 + ((xl.take i).map fun p => topP p g).sum else msF lvs (k + 1) j) wq) ∧ Hid (Only mb none wm wq)) (fun iv _ => xl.length - (intOf iv).toNat)
        case atStart => exact ⟨0, Nat.zero_le _, rfl, HMI, HOI⟩
        case round =>
        obtain ⟨i, hi, rfl, HMJ, HOJ⟩ := hrel
        by_cases hil : i < xl.length
        · obtain ⟨⟨hcp, hc1, hc2, hc3, hc4⟩, ⟨hcpk, hcq, hcg⟩, hlg, hpx⟩ := HST.out _ HOJ.out
          obtain ⟨xb, xo, ⟨pA, pD, pT, pU⟩, hxa, hp, _, hp0, hp1, hp2, hp3⟩ := hpx.at_ hil
          simp only at hp0 hp1 hp2 hp3
          subst hxa
          have hpb := HXB.out _ (List.mem_of_getElem? hp)
          simp only at hpb
          obtain ⟨r, hr⟩ : ∃ r, plL (ImgS pD pT pU g) = r := ⟨_, rfl⟩
          have hrp := topP_rep (p := (pA, pD, pT, pU)) hpb g
          simp only at hrp
          rw [hr] at hrp
          have HRP := Lib.hid hrp
          have HRS : Hid (Rep r (Mem r)) := Lib.hid (Rep.self hrp.1)
          obtain ⟨hi9, hhi⟩ : ∃ z, optD (nthS r (cnt r - 1)) = z := ⟨_, rfl⟩
          obtain ⟨bo, hbo⟩ : ∃ z, optB (nthS r (cnt r - 1)) = z := ⟨_, rfl⟩
          have htp : topP (pA, pD, pT, pU) g = hi9 := by unfold topP lastI; simp only; rw [hr]; exact hhi
          have hhb : 0 ≤ hi9 ∧ hi9 ≤ 67108864 := by rw [← htp]; exact topP_bd hpb g
          have HHI := Lib.hid hhi
          have HBO := Lib.hid hbo
          have HTP := Lib.hid htp
          have HPX := Lib.hid hp
          have hii : (i : Int) < (xl.length : Int) := by omega
          have HLG := Lib.hid hlg
          obtain ⟨S1, hS1⟩ : ∃ z, v1 + ((xl.take i).map fun p => topP p g).sum = z := ⟨_, rfl⟩
          have hS1b : 0 ≤ S1 ∧ S1 ≤ 536870912 := by
            have h := sumT_bd (l := xl.take i) (fun p hp => HXB.out p (List.mem_of_mem_take hp)) g
            have h2 : (xl.take i).length ≤ 4 := by rw [List.length_take]; omega
            omega
          have HS1 := Lib.hid hS1
          have hS2 : S1 + hi9 = v1 + ((xl.take (i + 1)).map fun p => topP p g).sum := by
            rw [take_snoc? hp, List.map_append, List.sum_append, ← hS1]
            simp [htp]; omega
          have HS2 := Lib.hid hS2
          clear hr hrp hhi hbo htp hp hlg hpx hS1 hS2 hpb
          go_wp2_with fail
          obtain ⟨bz, hbz⟩ : ∃ z, wr.heap.size = z := ⟨_, rfl⟩
          obtain ⟨w3, hw3⟩ : ∃ V, wr.alloc (.cells #[.int .i64 pA, .int .i64 pD, .int .i64 pT, .int .i64 pU] 56) = V := ⟨_, rfl⟩
          have hbx := heap_alloc_new wr (.cells #[.int .i64 pA, .int .i64 pD, .int .i64 pT, .int .i64 pU] 56)
          rw [hw3, hbz] at hbx
          have HO3 : Hid (Only mb none wm w3) := Lib.hid (by rw [← hw3]; exact HOJ.out.alloc _)
          have HB3 : Hid (Below wr.heap.size wr w3) := Lib.hid (by rw [← hw3]; exact (Below.refl _ _).alloc (Nat.le_refl _) _)
          have hb0 : w3.cell? ⟨bz, 0, none⟩ = some (.int .i64 pA) := by simp [World.cell?, hbx]
          have hb1 : w3.cell? ⟨bz, 1, none⟩ = some (.int .i64 pD) := by simp [World.cell?, hbx]
          have hb2 : w3.cell? ⟨bz, 2, none⟩ = some (.int .i64 pT) := by simp [World.cell?, hbx]
          have hb3 : w3.cell? ⟨bz, 3, none⟩ = some (.int .i64 pU) := by simp [World.cell?, hbx]
          have hbl : bz < w3.heap.size := (Array.getElem?_eq_some_iff.1 hbx).1
          have HBZ := Lib.hid hbx
          clear hcp hc1 hc2 hc3 hc4 hcpk hcq hcg
          obtain ⟨⟨hcp, hc1, hc2, hc3, hc4⟩, ⟨hcpk, hcq, hcg⟩, hlg, _⟩ := HST.out _ HO3.out
          have HKG : Hid (St w3.drew w3.drew (Lst ga g)) := Lib.hid (St.start fun V hV => hlg.below ((Below.refl _ w3).drew.trans hV))
          have hxin : (xi : Int) < (L.length : Int) := by omega
          rw [hw3, hbz]
          clear hw3 hbx hlg hbz
          refine wp_region_ZN 20 (by kernel_rfl) (fun V => V.cell? ⟨sb + 1 + 1, 0, none⟩ = some (.pointer (some ⟨sb + 1, 0, none⟩)) ∧ V.cell? ⟨sb + 1, 1, none⟩ = some (.slice (some ⟨gb, go, none⟩) L.length c2) ∧ V.cell? ⟨sb + 1, 2, none⟩ = some (.slice (some ⟨pb, po, none⟩) n pc) ∧ V.cell? ⟨pb, po + k, none⟩ = some (.int .i64 (xi : Int)) ∧ V.cell? ⟨gb, go + xi, none⟩ = some (.slice ga g.length gc) ∧
            V.cell? ⟨bz, 0, none⟩ = some (.int .i64 pA) ∧ V.cell? ⟨bz, 1, none⟩ = some (.int .i64 pD) ∧ V.cell? ⟨bz, 2, none⟩ = some (.int .i64 pT) ∧ V.cell? ⟨bz, 3, none⟩ = some (.int .i64 pU)) ⟨hcp, hc1, hc2, hcpk, hcg, hb0, hb1, hb2, hb3⟩ (fun hHeld => ?_)
          refine wpAnyZ_take (i := 0) (v := ?_) rfl (by kernel_rfl) (by kernel_rfl) (by kernel_rfl) (by kernel_rfl) (fun _ _ _ h => h) (Or.inl ⟨by first | kernel_rfl | rfl, ?_⟩) (by assumption) ?_
          rotate_left
          · intro w hSw; (try dsimp only at hSw); go_simp; (try with_reducible rfl)
          (try simp only [Act.put, List.getElem_toArray, List.getElem_cons_succ, List.getElem_cons_zero, List.setIfInBounds_toArray, List.set_cons_zero, List.set_cons_succ])
          refine wpAnyZ_take (i := 1) (v := ?_) rfl (by kernel_rfl) (by kernel_rfl) (by kernel_rfl) (by kernel_rfl) (fun _ _ _ h => h) (Or.inl ⟨by first | kernel_rfl | rfl, ?_⟩) (by assumption) ?_
          rotate_left
          · intro w hSw; (try dsimp only at hSw); go_simp; (try with_reducible rfl)
          (try simp only [Act.put, List.getElem_toArray, List.getElem_cons_succ, List.getElem_cons_zero, List.setIfInBounds_toArray, List.set_cons_zero, List.set_cons_succ])
          refine wpAnyZ_take (i := 2) (v := ?_) rfl (by kernel_rfl) (by kernel_rfl) (by kernel_rfl) (by kernel_rfl) (fun _ _ _ h => h) (Or.inl ⟨by first | kernel_rfl | rfl, ?_⟩) (by assumption) ?_
          rotate_left
          · intro w hSw; (try dsimp only at hSw); go_simp; (try with_reducible rfl)
          (try simp only [Act.put, List.getElem_toArray, List.getElem_cons_succ, List.getElem_cons_zero, List.setIfInBounds_toArray, List.set_cons_zero, List.set_cons_succ])
          refine wpAnyZ_take (i := 3) (v := ?_) rfl (by kernel_rfl) (by kernel_rfl) (by kernel_rfl) (by kernel_rfl) (fun _ _ _ h => h) (Or.inl ⟨by first | kernel_rfl | rfl, ?_⟩) (by assumption) ?_
          rotate_left
          · intro w hSw; (try dsimp only at hSw); go_simp; (try with_reducible rfl)
          (try simp only [Act.put, List.getElem_toArray, List.getElem_cons_succ, List.getElem_cons_zero, List.setIfInBounds_toArray, List.set_cons_zero, List.set_cons_succ])
          refine wpAnyZ_take (i := 4) (v := ?_) rfl (by kernel_rfl) (by kernel_rfl) (by kernel_rfl) (by kernel_rfl) (fun _ _ _ h => h) (Or.inl ⟨by first | kernel_rfl | rfl, ?_⟩) (by assumption) ?_
          rotate_left
          · intro w hSw; (try dsimp only at hSw); go_simp; (try with_reducible rfl)
          (try simp only [Act.put, List.getElem_toArray, List.getElem_cons_succ, List.getElem_cons_zero, List.setIfInBounds_toArray, List.set_cons_zero, List.set_cons_succ])
          refine wpAnyZ_take (i := 5) (v := ?_) rfl (by kernel_rfl) (by kernel_rfl) (by kernel_rfl) (by kernel_rfl) (fun _ _ _ h => h) (Or.inl ⟨by first | kernel_rfl | rfl, ?_⟩) (by assumption) ?_
          rotate_left
          · intro w hSw; (try dsimp only at hSw); go_simp; (try with_reducible rfl)
          (try simp only [Act.put, List.getElem_toArray, List.getElem_cons_succ, List.getElem_cons_zero, List.setIfInBounds_toArray, List.set_cons_zero, List.set_cons_succ])
          refine wpAnyZ_take (i := 6) (v := ?_) rfl (by kernel_rfl) (by kernel_rfl) (by kernel_rfl) (by kernel_rfl) (fun _ _ _ h => h) (Or.inl ⟨by first | kernel_rfl | rfl, ?_⟩) (by assumption) ?_
          rotate_left
          · intro w hSw; (try dsimp only at hSw); go_simp; (try with_reducible rfl)
          (try simp only [Act.put, List.getElem_toArray, List.getElem_cons_succ, List.getElem_cons_zero, List.setIfInBounds_toArray, List.set_cons_zero, List.set_cons_succ])
          refine wpAnyZ_take (i := 7) (v := ?_) rfl (by kernel_rfl) (by kernel_rfl) (by kernel_rfl) (by kernel_rfl) (fun _ _ _ h => h) (Or.inl ⟨by first | kernel_rfl | rfl, ?_⟩) (by assumption) ?_
          rotate_left
          · intro w hSw; (try dsimp only at hSw); go_simp; (try with_reducible rfl)
          (try simp only [Act.put, List.getElem_toArray, List.getElem_cons_succ, List.getElem_cons_zero, List.setIfInBounds_toArray, List.set_cons_zero, List.set_cons_succ])
          refine wpAnyZ_take (i := 8) (v := ?_) rfl (by kernel_rfl) (by kernel_rfl) (by kernel_rfl) (by kernel_rfl) (fun _ _ _ h => h) (Or.inl ⟨by first | kernel_rfl | rfl, ?_⟩) (by assumption) ?_
          rotate_left
          · intro w hSw; (try dsimp only at hSw); go_simp; (try with_reducible rfl)
          (try simp only [Act.put, List.getElem_toArray, List.getElem_cons_succ, List.getElem_cons_zero, List.setIfInBounds_toArray, List.set_cons_zero, List.set_cons_succ])
          refine wpAnyZ_take (i := 9) (v := ?_) rfl (by kernel_rfl) (by kernel_rfl) (by kernel_rfl) (by kernel_rfl) (fun _ _ _ h => h) (Or.inl ⟨by first | kernel_rfl | rfl, ?_⟩) (by assumption) ?_
          rotate_left
          · intro w hSw; (try dsimp only at hSw); go_simp; (try with_reducible rfl)
          (try simp only [Act.put, List.getElem_toArray, List.getElem_cons_succ, List.getElem_cons_zero, List.setIfInBounds_toArray, List.set_cons_zero, List.set_cons_succ])
          refine wpAnyZ_take (i := 10) (v := ?_) rfl (by kernel_rfl) (by kernel_rfl) (by kernel_rfl) (by kernel_rfl) (fun _ _ _ h => h) (Or.inl ⟨by first | kernel_rfl | rfl, ?_⟩) (by assumption) ?_
          rotate_left
          · intro w hSw; (try dsimp only at hSw); go_simp; (try with_reducible rfl)
          (try simp only [Act.put, List.getElem_toArray, List.getElem_cons_succ, List.getElem_cons_zero, List.setIfInBounds_toArray, List.set_cons_zero, List.set_cons_succ])
          refine wpAnyZ_take (i := 11) (v := ?_) rfl (by kernel_rfl) (by kernel_rfl) (by kernel_rfl) (by kernel_rfl) (fun _ _ _ h => h) (Or.inl ⟨by first | kernel_rfl | rfl, ?_⟩) (by assumption) ?_
          rotate_left
          · intro w hSw; (try dsimp only at hSw); go_simp; (try with_reducible rfl)
          (try simp only [Act.put, List.getElem_toArray, List.getElem_cons_succ, List.getElem_cons_zero, List.setIfInBounds_toArray, List.set_cons_zero, List.set_cons_succ])
          refine wpAnyZ_take (i := 12) (v := ?_) rfl (by kernel_rfl) (by kernel_rfl) (by kernel_rfl) (by kernel_rfl) (fun _ _ _ h => h) (Or.inl ⟨by first | kernel_rfl | rfl, ?_⟩) (by assumption) ?_
          rotate_left
          · intro w hSw; (try dsimp only at hSw); go_simp; (try with_reducible rfl)
          (try simp only [Act.put, List.getElem_toArray, List.getElem_cons_succ, List.getElem_cons_zero, List.setIfInBounds_toArray, List.set_cons_zero, List.set_cons_succ])
          refine wpAnyZ_take (i := 13) (v := ?_) rfl (by kernel_rfl) (by kernel_rfl) (by kernel_rfl) (by kernel_rfl) (fun _ _ _ h => h) (Or.inl ⟨by first | kernel_rfl | rfl, ?_⟩) (by assumption) ?_
          rotate_left
          · intro w hSw; (try dsimp only at hSw); go_simp; (try with_reducible rfl)
          (try simp only [Act.put, List.getElem_toArray, List.getElem_cons_succ, List.getElem_cons_zero, List.setIfInBounds_toArray, List.set_cons_zero, List.set_cons_succ])
          refine wpAnyZ_ready (i := 14) (by kernel_rfl) rfl (fun K hK => ?_)
          go_simp
          refine (Image_st HKG (fun _ h => h) gc pA pD pT pU HRP).mono ?_
          rintro e w4 ⟨A7, c7, rfl, HK7⟩
          have hb4 : Below w3.heap.size w3 w4 := (Below.refl _ w3).drew.trans HK7.out.2
          refine hK.out _ _ (⟨(hb4.cell (lt_of_cell hcp)).trans hcp, (hb4.cell (lt_of_cell hc1)).trans hc1, (hb4.cell (lt_of_cell hc2)).trans hc2, (hb4.cell (lt_of_cell hcpk)).trans hcpk, (hb4.cell (lt_of_cell hcg)).trans hcg, (hb4.cell (lt_of_cell hb0)).trans hb0, (hb4.cell (lt_of_cell hb1)).trans hb1, (hb4.cell (lt_of_cell hb2)).trans hb2, (hb4.cell (lt_of_cell hb3)).trans hb3⟩) (fun hHeld => ?_)
          clear hK K
          (try simp only [Act.put, List.getElem_toArray, List.getElem_cons_succ, List.getElem_cons_zero, List.setIfInBounds_toArray, List.set_cons_zero, List.set_cons_succ])
          refine wpAnyZ_ready (i := 15) (by kernel_rfl) rfl (fun K hK => ?_)
          go_simp
          refine (Last_st HK7 (fun _ h => h.1) c7 HRS HHI.out HBO.out).mono ?_
          rintro e w5 ⟨rfl, HK8⟩
          have hb5 : Below w3.heap.size w3 w5 := (Below.refl _ w3).drew.trans HK8.out.2
          refine hK.out _ _ (⟨(hb5.cell (lt_of_cell hcp)).trans hcp, (hb5.cell (lt_of_cell hc1)).trans hc1, (hb5.cell (lt_of_cell hc2)).trans hc2, (hb5.cell (lt_of_cell hcpk)).trans hcpk, (hb5.cell (lt_of_cell hcg)).trans hcg, (hb5.cell (lt_of_cell hb0)).trans hb0, (hb5.cell (lt_of_cell hb1)).trans hb1, (hb5.cell (lt_of_cell hb2)).trans hb2, (hb5.cell (lt_of_cell hb3)).trans hb3⟩) (fun hHeld => ?_)
          clear hK K
          (try simp only [Act.put, List.getElem_toArray, List.getElem_cons_succ, List.getElem_cons_zero, List.setIfInBounds_toArray, List.set_cons_zero, List.set_cons_succ])
          refine wpAnyZ_take (i := 16) (v := ?_) rfl (by kernel_rfl) (by kernel_rfl) (by kernel_rfl) (by kernel_rfl) (fun _ _ _ h => h) (Or.inl ⟨by first | kernel_rfl | rfl, ?_⟩) (by assumption) ?_
          rotate_left
          · intro w hSw; (try dsimp only at hSw); go_simp; (try with_reducible rfl)
          (try simp only [Act.put, List.getElem_toArray, List.getElem_cons_succ, List.getElem_cons_zero, List.setIfInBounds_toArray, List.set_cons_zero, List.set_cons_succ])
          refine wpAnyZ_take (i := 17) (v := ?_) rfl (by kernel_rfl) (by kernel_rfl) (by kernel_rfl) (by kernel_rfl) (fun _ _ _ h => h) (Or.inl ⟨by first | kernel_rfl | rfl, ?_⟩) (by assumption) ?_
          rotate_left
          · intro w hSw; (try dsimp only at hSw); go_simp; (try with_reducible rfl)
          (try simp only [Act.put, List.getElem_toArray, List.getElem_cons_succ, List.getElem_cons_zero, List.setIfInBounds_toArray, List.set_cons_zero, List.set_cons_succ])
          refine wpAnyZ_take (i := 18) (v := ?_) rfl (by kernel_rfl) (by kernel_rfl) (by kernel_rfl) (by kernel_rfl) (fun _ _ _ h => h) (Or.inl ⟨by first | kernel_rfl | rfl, ?_⟩) (by assumption) ?_
          rotate_left
          · intro w hSw; (try dsimp only at hSw); go_simp; (try with_reducible rfl)
          (try simp only [Act.put, List.getElem_toArray, List.getElem_cons_succ, List.getElem_cons_zero, List.setIfInBounds_toArray, List.set_cons_zero, List.set_cons_succ])
          refine wpAnyZ_take (i := 19) (v := ?_) rfl (by kernel_rfl) (by kernel_rfl) (by kernel_rfl) (by kernel_rfl) (fun _ _ _ h => h) (Or.inl ⟨by first | kernel_rfl | rfl, ?_⟩) (by assumption) ?_
          rotate_left
          · intro w hSw; (try dsimp only at hSw); go_simp; (try with_reducible rfl)
          (try simp only [Act.put, List.getElem_toArray, List.getElem_cons_succ, List.getElem_cons_zero, List.setIfInBounds_toArray, List.set_cons_zero, List.set_cons_succ])
          refine wpAnyZ_last (i := 20) rfl (by kernel_rfl) (by kernel_rfl) rfl (fun K hK => ?_)
          go_simp
          refine hK.out _ _ ?_
          refine NoPanic.normal ?_
          clear hK K hHeld hcp hc1 hc2 hc3 hc4 hcpk hcq hcg hb0 hb1 hb2 hb3 hb4 hxin
          have HO5 : Hid (Only mb none wm w5) := Lib.hid (HO3.out.trans (Only.of_below hb5) (Newer.refl _ _))
          have hmbl : mb < wr.heap.size := (Array.getElem?_eq_some_iff.1 (show wr.heap[mb]? = some _ from HMJ.out)).1
          have HM5 : Hid (MsB mb n (fun j => if j = k then v1 + ((xl.take i).map fun p => topP p g).sum else msF lvs (k + 1) j) w5) := Lib.hid (HMJ.out.keep ((hb5.block mb (by have := HB3.out.size; omega)).trans (HB3.out.block mb hmbl)))
          obtain ⟨⟨hcp, _, _, _, hc4⟩, _, _⟩ := HST.out _ HO5.out
          have hmk : w5.cell? ⟨mb, k, none⟩ = some (.int .i64 S1) := by
            have h := HM5.out.cell (j := k) (by omega)
            rw [if_pos rfl, HS1.out] at h; exact h
          have hmf := HM5.out.frozen k
          clear hb5
          go_wp2_with fail
          exact ⟨⟨i + 1, by omega, by go_num, Lib.hid ((HM5.out.set (k := k) (S1 + hi9)).congr fun j hj => by
            by_cases h : j = k
            · rw [if_pos h, if_pos h, HS2.out]
            · rw [if_neg h, if_neg h, if_neg h]), Lib.hid (HO5.out.setCell k _)⟩, by simp [intOf]; omega⟩
        · obtain rfl : i = xl.length := by omega
          have hdd : decide ((xl.length : Int) < (xl.length : Int)) = false := by simp
          go_wp2_with fail
          exact ⟨⟨k, by omega, by go_num, Lib.hid (HMJ.out.congr fun j hj => by
            unfold msF
            by_cases h : j = k
            · rw [if_pos h, List.take_length, if_neg (by omega), h, HTOP.out]
            · rw [if_neg h]
              by_cases h2 : j < k
              · rw [if_pos (by omega), if_pos h2]
              · rw [if_neg (by omega), if_neg h2]), HOJ⟩, by simp [intOf]⟩
    case stop => rintro D cd pre W _ _ h; exact h.elim
end
end Go.Proofs.Ytpmhdjiacgckjaa
end
