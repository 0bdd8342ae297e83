/- Contract of term.plus: all sums of a number of one set and one of another. Condition: both lists are plain, the sums are not great. A region that draws its order and whose last operation waits for all the others: what must hold for its loads need not hold behind that last one. Condition: the last operation waits for each one that is taken first. Contract of term.values. Condition: the parts and the sets are known, the parts are right, the sets are plain and have something. Contract of term.inner. Condition: the parts and the guards are known, the parts are right. Contracts of term.Image and term.Fits. Condition: the parts and the guards are known, there are four guards at most. Contracts of desc.state, head, writes and rule. Condition: what is at hand is known. Contract of table's (*maker).has: whether the first guards have classes. Condition: the guards and the classes' least numbers are known. Contracts of slices.Clone at several types: a row of the call's own that reads as the one that came in. Condition: the row is not too long. Contract of table.own: terms in memory of the call's own. Condition: the terms are known, they are few. -/
import Derived.Test.YtlmkokeapbleoaaR06
import Derived.Test.YtlmkokeapbleoaaR05
import Derived.Test.YtlmkokeapbleoaaR04
import Derived.Lib.MinMax
import Derived.Deep.RegionHeld3
import Derived.Deep.DeepCutAuto
import Derived.Deep.OwnRows
set_option maxRecDepth 100000
set_option maxHeartbeats 64000000
set_option linter.unusedVariables false
set_option linter.unusedSimpArgs false
section
namespace Go.Proofs.Ytlmkokeapbleoaa
open Go.RowKit Go.Shelf
structure PlW (w3 : World) (bx : Nat) (x1 x2 : Int) (o : List Sp) (A : Option Addr) (c : Nat) (W : World) : Prop where
  row : SRow W w3.heap.size A c o
  bel : Below w3.heap.size w3 W
  c1 : W.cell? ⟨bx, 0, none⟩ = some (.int .i64 x1)
  c2 : W.cell? ⟨bx, 1, none⟩ = some (.int .i64 x2)
  ne : Value.ownBlock (.slice A o.length c) ≠ some bx
theorem PlW.start {w3 W : World} {x1 x2 : Int} {o : List Sp} {A : Option Addr} {c : Nat} (h : SRow W w3.heap.size A c o) (hb : Below w3.heap.size w3 W) : PlW w3 W.heap.size x1 x2 o A c (W.alloc (.cells #[.int .i64 x1, .int .i64 x2] 35)) := by
  have hbk := heap_alloc_new W (.cells #[.int .i64 x1, .int .i64 x2] 35)
  refine ⟨h.alloc _, hb.alloc hb.size _, ?_, ?_, fun e => ?_⟩
  · simp only [World.cell?, hbk]; rfl
  · simp only [World.cell?, hbk]; rfl
  · have := (h.lt _ e).2
    omega
theorem PlW.round {w3 W : World} {bx : Nat} {x1 x2 : Int} {o : List Sp} {A : Option Addr} {c : Nat} (h : PlW w3 bx x1 x2 o A c W) (ob : Obj) : PlW w3 bx x1 x2 o A c (W.alloc ob) :=
  ⟨h.row.alloc _, h.bel.alloc h.bel.size _, cellAlloc _ h.c1, cellAlloc _ h.c2, h.ne⟩
theorem PlW.push {w3 W W' : World} {bx : Nat} {x1 x2 : Int} {ob : Obj} {o o' : List Sp} {A A' : Option Addr} {c c' : Nat} (h : PlW w3 bx x1 x2 o A c W) (hO : SRow W' w3.heap.size A' c' o') (hG : (W.alloc ob).grownBy W' (Value.ownBlock (.slice A o.length c)))
    (hA : Value.ownBlock (.slice A' o'.length c') = Value.ownBlock (.slice A o.length c) ∨ Value.ownBlock (.slice A' o'.length c') = some (W.heap.size + 1)) : PlW w3 bx x1 x2 o' A' c' W' := by
  have hbx := lt_of_cell h.c1
  refine ⟨hO, SRow.pushed h.bel h.row (Nat.le_refl _) h.bel.size hG, hG.cell (cellAlloc _ h.c1) (fun e => h.ne e.symm), hG.cell (cellAlloc _ h.c2) (fun e => h.ne e.symm), fun e => ?_⟩
  rcases hA with g | g
  · exact h.ne (g ▸ e)
  · rw [g] at e; injection e with e; omega
structure PlI (a b : List Sp) (i j : Nat) (o : List Sp) : Prop where
  mem : ∀ v, Mem o v ↔ (-1073741824 ≤ v ∧ v ≤ 1073741824 ∧ PlS a b i j v)
  wd : SpW o
theorem PlI.start (a b : List Sp) : PlI a b 0 0 [] := by
  refine ⟨fun v => ⟨?_, ?_⟩, fun p hp => by cases hp⟩
  · rintro ⟨_, _, h⟩; exact h.elim
  · rintro ⟨_, _, h⟩; exact absurd h (plS_start a b v)
theorem PlI.next {a b : List Sp} {i j : Nat} {o : List Sp} (h : PlI a b i j o) {p q : Sp} (hp : a[i]? = some p) (hq : b[j]? = some q) (h1 : -1073741824 ≤ p.1 + q.1) (h2 : p.1 + q.1 ≤ p.2 + q.2) (h3 : p.2 + q.2 ≤ 1073741824) : PlI a b i (j + 1) (o ++ [(p.1 + q.1, p.2 + q.2)]) := by
  refine ⟨fun v => ?_, fun r hr => ?_⟩
  · rw [mem_app, h.mem, plS_next hp hq]
    constructor
    · rintro (⟨g1, g2, g3⟩ | ⟨g1, g2, g3⟩)
      · exact ⟨g1, g2, .inl g3⟩
      · exact ⟨g1, g2, .inr g3⟩
    · rintro ⟨g1, g2, g3 | g3⟩
      · exact .inl ⟨g1, g2, g3⟩
      · exact .inr ⟨g1, g2, g3⟩
  · rcases List.mem_append.1 hr with hr | hr
    · exact h.wd r hr
    · simp at hr; subst hr; simp only; omega
theorem PlI.row {a b : List Sp} {i : Nat} {o : List Sp} (h : PlI a b i b.length o) {p : Sp} (hp : a[i]? = some p) : PlI a b (i + 1) 0 o := ⟨fun v => by rw [h.mem, plS_row hp], h.wd⟩
theorem PlI.norm {a b : List Sp} {i j : Nat} {o r : List Sp} (h : PlI a b i j o) (hr : Rep r (Mem o)) : PlI a b i j r := ⟨fun v => by rw [hr.mem, h.mem], hr.1.spw⟩
theorem PlI.fin {a b : List Sp} {o r s : List Sp} (h : PlI a b a.length 0 o) (ha : Plain a) (hb : Plain b) (hr : Rep r (Mem o)) (hbd : ∀ v, SumS (Mem a) (Mem b) v → -1073741824 ≤ v ∧ v ≤ 1073741824) : Rep r (SumS (Mem a) (Mem b)) := hr.congr fun v => by
  rw [h.mem, plS_done ha hb]
  exact ⟨fun g => g.2.2, fun g => ⟨(hbd v g).1, (hbd v g).2, g⟩⟩
section
variable {w0 w : World} {F : World → Prop} {A B : Option Addr} {a b r : List Sp}
theorem plus_st (hK : Hid (St w0 w F)) (ha : ∀ W, F W → Lst A a W) (hb : ∀ W, F W → Lst B b W) (ca cb : Nat) (hpa : Hid (Plain a)) (hpb : Hid (Plain b)) (hbd : Hid (∀ v, SumS (Mem a) (Mem b) v → -1073741824 ≤ v ∧ v ≤ 1073741824)) (hr : Hid (Rep r (SumS (Mem a) (Mem b)))) :
    Calls Try.prog 88 #[.slice A a.length ca, .slice B b.length cb] w (RetL w0 r F) := by
  have HA := Lib.hid ha
  have HB := Lib.hid hb
  have hal := hpa.out.len_le
  have hbl := hpb.out.len_le
  clear ha hb
  go_enter Try.func88, Try.ntmps88
  go_wp2_with fail
  go_loopw [5, 12] (fun v i wr => ∃ (k : Nat) (o : List Sp) (Ao : Option Addr) (co : Nat), k ≤ a.length ∧ i = .int .i64 k ∧ v = .slice Ao o.length co ∧ o.length ≤ 1073741825 ∧ Hid (SRow wr w.heap.size Ao co o) ∧ Hid (PlI a b k 0 o) ∧ Hid (Below w.heap.size w wr)) (fun _ i _ => a.length - (intOf i).toNat)
  case atStart => exact ⟨0, [], none, 0, Nat.zero_le _, rfl, rfl, by simp, Lib.hid (SRow.start _ _), Lib.hid (PlI.start a b), Lib.hid (Below.refl _ _)⟩
  case round =>
  obtain ⟨k, o, Ao, co, hk, rfl, rfl, hol, HO, HI, HBL⟩ := hrel
  have HS := Lib.hid (hK.out.step HBL.out)
  by_cases hlt : k < a.length
  · obtain ⟨gb, off, p, hA, hp, hc1, hc2⟩ := (HA.out _ HS.out.now).sp.at_ hlt
    obtain ⟨x1, x2⟩ := p
    obtain ⟨hx0, hx12, hx2⟩ := PlainF.spw hpa.out (Int.le_refl _) (x1, x2) (List.mem_of_getElem? hp)
    have HP := Lib.hid hp
    simp only at hc1 hc2 hx0 hx12 hx2
    have hgw := lt_of_cell hc1
    subst hA
    have HPS := Lib.hid (PlW.start (x1 := x1) (x2 := x2) HO.out HBL.out)
    clear hp
    go_wp2_with fail
    clear hc1 hc2
    obtain ⟨w4, hw4⟩ : ∃ w4, wr.alloc (.cells #[.int .i64 x1, .int .i64 x2] 35) = w4 := ⟨_, rfl⟩
    obtain ⟨bx, hbx⟩ : ∃ b, wr.heap.size = b := ⟨_, rfl⟩
    rw [hw4, hbx] at HPS
    rw [hw4, hbx]
    clear hw4 hbx
    go_loopw [5, 18] (fun v i wr2 => ∃ (j : Nat) (o2 : List Sp) (Ao2 : Option Addr) (co2 : Nat), j ≤ b.length ∧ i = .int .i64 j ∧ v = .slice Ao2 o2.length co2 ∧ o2.length ≤ 1073741825 + j ∧ Hid (PlW w bx x1 x2 o2 Ao2 co2 wr2) ∧ Hid (PlI a b k j o2)) (fun _ i _ => b.length - (intOf i).toNat)
    case atStart => exact ⟨0, o, Ao, co, Nat.zero_le _, rfl, rfl, by omega, HPS, HI⟩
    case round =>
    clear HPS HI HO HBL HS
    obtain ⟨j, o2, Ao2, co2, hj, rfl, rfl, hol2, HPW, HI⟩ := hrel
    have HS := Lib.hid (hK.out.step HPW.out.bel)
    by_cases hlj : j < b.length
    · obtain ⟨gy, offy, py, hAy, hy, hd1, hd2⟩ := (HB.out _ HS.out.now).sp.at_ hlj
      obtain ⟨y1, y2⟩ := py
      obtain ⟨hy0, hy12, hy2⟩ := PlainF.spw hpb.out (Int.le_refl _) (y1, y2) (List.mem_of_getElem? hy)
      have HY := Lib.hid hy
      simp only at hd1 hd2 hy0 hy12 hy2
      have hgy := lt_of_cell hd1
      subst hAy
      have hx1 := HPW.out.c1
      have hx2c := HPW.out.c2
      have hbx := lt_of_cell hx1
      have hm : ∀ x y, (x = x1 ∨ x = x2) → (y = y1 ∨ y = y2) → SumS (Mem a) (Mem b) (x + y) := fun x y hx hy => by
        refine ⟨x, y, (hpa.out.mem _).2 ((InS_iff _ _).2 ⟨(x1, x2), List.mem_of_getElem? HP.out, ?_, ?_⟩), (hpb.out.mem _).2 ((InS_iff _ _).2 ⟨(y1, y2), List.mem_of_getElem? HY.out, ?_, ?_⟩), rfl⟩ <;> simp only <;> omega
      have hs1 := (hbd.out _ (hm x1 y1 (.inl rfl) (.inl rfl))).1
      have hs2 := (hbd.out _ (hm x2 y2 (.inr rfl) (.inr rfl))).2
      have HIN := Lib.hid (HI.out.next HP.out HY.out hs1 (by simp only; omega) hs2)
      have HPR := Lib.hid (HPW.out.round (.cells #[.int .i64 y1, .int .i64 y2] 35))
      have hsz := HPW.out.bel.size
      clear hy hm
      go_wp2_with (first | (at_builtin; go_must (refine wpList_pushS rfl _ _ rfl HPR.out.row rfl (by first | rfl | (simp; rfl) | simp) (by omega) (by simp; omega) ?_); intro l2 A2 c2 w5 HL2 HO2 HG2 HAT2))
      simp only at HIN
      rw [← HL2.out] at HIN
      have hl2 : l2.length = o2.length + 1 := by rw [HL2.out]; simp
      go_roundw
      case rel => exact ⟨j + 1, l2, A2, c2, by omega, by go_num, rfl, by omega, Lib.hid (HPR.out.push HO2.out HG2.out HAT2.out), HIN⟩
      case measure => simp [intOf]; omega
    · obtain rfl : j = b.length := by omega
      have hd : decide (b.length < b.length) = false := by simp
      have HI2 := Lib.hid (HI.out.row HP.out)
      have HSZ := Lib.hid HPW.out.bel.size
      by_cases h16 : (65536 : Int) < (o2.length : Int)
      · have HK3 := Lib.hid (HS.out.add (Below.refl _ _) (G := Lst Ao2 o2) (fun W hW => ⟨HPW.out.row.spans.below hW, HI.out.wd, by omega⟩))
        obtain ⟨ro, Ro⟩ := rep_norm o2
        clear hlj
        go_wp2_with fail
        refine (Norm_stN HK3 (fun _ h => h.1) _ Ro).mono ?_
        rintro e w6 ⟨A6, c6, rfl, HO6, HK6, HB6⟩
        have hrl := Ro.out.1.len_le
        go_wp2_with fail
        go_roundw
        case rel => exact ⟨k + 1, ro, A6, c6, by omega, by go_num, rfl, hrl, Lib.hid (own_base HO6.out HSZ.out), Lib.hid (HI2.out.norm Ro.out), Lib.hid (HPW.out.bel.trans (HB6.out.mono HSZ.out))⟩
        case measure => simp [intOf]; omega
      · clear hlj
        go_wp2_with fail
        go_roundw
        case rel => exact ⟨k + 1, o2, Ao2, co2, by omega, by go_num, rfl, by omega, Lib.hid HPW.out.row, HI2, Lib.hid HPW.out.bel⟩
        case measure => simp [intOf]; omega
  · obtain rfl : k = a.length := by omega
    have hd : decide (a.length < a.length) = false := by simp
    have HK3 := Lib.hid (HS.out.add (Below.refl _ _) (G := Lst Ao o) (fun W hW => ⟨HO.out.spans.below hW, HI.out.wd, by omega⟩))
    obtain ⟨ro, Ro⟩ := rep_norm o
    obtain rfl := Rep.unique (HI.out.fin (s := []) hpa.out hpb.out Ro.out hbd.out) hr.out (fun _ => Iff.rfl)
    clear hlt
    go_wp2_with fail
    refine (Norm_st HK3 (fun _ h => h.1) _ Ro).mono ?_
    rintro e w6 ⟨A6, c6, rfl, HK6⟩
    go_wp2_with fail
    go_ret
    exact ⟨A6, c6, rfl, Lib.hid (HK6.out.weaken fun _ h => ⟨h.1, h.2.2⟩)⟩
end
end Go.Proofs.Ytlmkokeapbleoaa
end
section
namespace Go.Proofs.Ytlmkokeapbleoaa
open Go.RowKit Go.Shelf
def waitsOn (md : Region.Mode) (ops : Array Oper) (z i : Nat) : Bool := ((ops[z]?).map fun o => o.after.any fun e => Region.binds md e && e.on == i).getD false
def wpAnyZ (P : Program) (md : Region.Mode) (ops : Array Oper) (Q : Exit → Act → World → Prop) (S : World → Prop) (z : Nat) : Nat → Array Bool → Act → World → Prop
  | 0, listed, a, w => Region.ready md ops listed = [] ∧ Q .normal a w
  | fuel + 1, listed, a, w => (Region.ready md ops listed = [] → Q .normal a w) ∧
    ∀ i ∈ Region.ready md ops listed, wpOp P ops Q i (fun a' w' => (i = z ∨ S w') ∧ wpAnyZ P md ops Q S z fuel (listed.setIfInBounds i true) a' w') a w
section
variable {P : Program} {ops : Array Oper} {Q : Exit → Act → World → Prop} {md : Region.Mode} {S : World → Prop} {z : Nat}
theorem wpAny_of_Z : ∀ (fuel : Nat) (listed : Array Bool) (a : Act) (w : World), wpAnyZ P md ops Q S z fuel listed a w → wpAny P md ops Q fuel listed a w
  | 0, _, _, _, h => h
  | fuel + 1, _, _, _, h => ⟨h.1, fun i hi => wpOp_mono (fun a' w' h' => wpAny_of_Z fuel _ a' w' h'.2) (h.2 i hi)⟩
theorem waits_not {i : Nat} {oz : Oper} (h : waitsOn md ops z i = true) (hz : ops[z]? = some oz) (hn : ∀ e ∈ oz.after, Region.binds md e = true → e.on ≠ i) : False := by
  unfold waitsOn at h
  rw [hz] at h
  simp only [Option.map_some, Option.getD_some] at h
  rw [Array.any_eq_true'] at h
  obtain ⟨e, he, hb⟩ := h
  rw [Bool.and_eq_true, beq_iff_eq] at hb
  exact hn e he hb.1 hb.2
theorem wpAnyZ_first {i : Nat} {oi : Oper} {v : Value} (hi : ops[i]? = some oi) (hsel : ∀ (j : Nat) (o : Oper) cs b, ops[j]? = some o → o.op ≠ .select cs b)
    (hQ : ∀ c a w, Q (.panic c) (a.put oi.dst v) w → Q (.panic c) a w) (hw : waitsOn md ops z i = true) :
    ∀ (fuel : Nat) (listed : Array Bool) (a : Act) (w : World),
      (∀ j oj, ops[j]? = some oj → j ≠ i → listed.getD j true = false → (∀ e ∈ oj.after, Region.binds md e = true → e.on ≠ i) → oi.apart ops oj = true) →
      i ∈ Region.ready md ops listed → YieldsIf P ops S oi v a → S w →
      wpAnyZ P md ops Q S z fuel (listed.setIfInBounds i true) (a.put oi.dst v) w → wpAnyZ P md ops Q S z (fuel + 1) listed a w := by
  intro fuel
  induction fuel with
  | zero =>
    intro listed a w _ hr hy hS H
    refine ⟨fun h => absurd hr (by rw [h]; exact List.not_mem_nil), fun j hj => ?_⟩
    by_cases hji : j = i
    · subst hji; exact hy.wpOp hi hS ⟨.inr hS, H⟩
    · have h1 := ready_mono hj hji
      rw [H.1] at h1
      exact absurd h1 List.not_mem_nil
  | succ fuel ih =>
    intro listed a w hfree hr hy hS H
    refine ⟨fun h => absurd hr (by rw [h]; exact List.not_mem_nil), fun j hj => ?_⟩
    by_cases hji : j = i
    · subst hji; exact hy.wpOp hi hS ⟨.inr hS, H⟩
    have h1 := H.2 j (ready_mono hj hji)
    obtain ⟨hun, oj, hoj, hall⟩ := mem_ready.1 hj
    have hi0 := (mem_ready.1 hr).1
    have hnot : ∀ e ∈ oj.after, Region.binds md e = true → e.on ≠ i := fun e he hb heq => by
      have h2 := hall e he hb
      rw [heq] at h2
      rcases Nat.lt_or_ge i listed.size with hl | hl
      · simp [hl] at hi0 h2; rw [hi0] at h2; cases h2
      · simp [Array.getElem?_eq_none hl] at h2
    have hjz : j ≠ z := fun e => by subst e; exact waits_not hw hoj hnot
    have h2 := wpOp_putIf hoj (hfree j oj hoj hji hun hnot) (fun cs b => hsel i oi cs b hi) (fun cs b => hsel j oj cs b hoj) hQ hy h1
    have hfree2 : ∀ k ok, ops[k]? = some ok → k ≠ i → (listed.setIfInBounds j true).getD k true = false → (∀ e ∈ ok.after, Region.binds md e = true → e.on ≠ i) → oi.apart ops ok = true := fun k ok hk hki hu hno => by
      refine hfree k ok hk hki ?_ hno
      by_cases hjk : j = k
      · subst hjk; exact hun
      · rw [getD_set_ne true hjk] at hu; exact hu
    refine wpOp_mono (fun a' w' h3 => ?_) h2
    have hS3 := h3.2.1.resolve_left hjz
    refine ⟨.inr hS3, ih (listed.setIfInBounds j true) a' w' hfree2 (ready_mono hr (Ne.symm hji)) h3.1 hS3 ?_⟩
    rw [Array.setIfInBounds_comm _ _ hji]
    exact h3.2.2
theorem wpAnyZ_take {i : Nat} {oi : Oper} {v : Value} {fuel : Nat} {listed : Array Bool} {a : Act} {w : World} (hi : ops[i]? = some oi)
    (hs : Region.noSelect ops = true) (hf : Region.free md ops listed i = true) (hr : (Region.ready md ops listed).contains i = true) (hw : waitsOn md ops z i = true)
    (hQ : ∀ c a w, Q (.panic c) (a.put oi.dst v) w → Q (.panic c) a w) (hy : YieldsIf P ops S oi v a) (hS : S w)
    (h : wpAnyZ P md ops Q S z fuel (listed.setIfInBounds i true) (a.put oi.dst v) w) : wpAnyZ P md ops Q S z (fuel + 1) listed a w :=
  wpAnyZ_first hi (Region.noSelect_spec hs) hQ hw fuel listed a w (Region.free_spec hi hf) (by simpa using hr) hy hS h
theorem wpAnyZ_ready {i : Nat} {fuel : Nat} {listed : Array Bool} {a : Act} {w : World} {o : Oper} (hr : Region.ready md ops listed = [i]) (ho : ops[i]? = some o)
    (h : ∀ K' : Act → World → Prop, Shut (∀ a w, S w → (S w → wpAnyZ P md ops Q S z fuel (listed.setIfInBounds i true) a w) → K' a w) → if Region.wanted o (yielded ops a.tmps) = true then Oper.wp P o a w K' Q else K' (a.put o.dst undef) w) :
    wpAnyZ P md ops Q S z (fuel + 1) listed a w :=
  ⟨fun h0 => absurd (hr.symm.trans h0) (by simp), by
    rw [hr]
    intro j hj
    rcases List.mem_singleton.1 hj with rfl
    exact wpOp_step ho (fun K' hK => h K' (fun a w hS hW => hK a w ⟨.inr hS, hW hS⟩))⟩
theorem wpAnyZ_last {i : Nat} {fuel : Nat} {listed : Array Bool} {a : Act} {w : World} {o : Oper} (hz : i = z) (hr : Region.ready md ops listed = [i]) (hr2 : Region.ready md ops (listed.setIfInBounds i true) = []) (ho : ops[i]? = some o)
    (h : ∀ K' : Act → World → Prop, Shut (∀ a w, Q .normal a w → K' a w) → if Region.wanted o (yielded ops a.tmps) = true then Oper.wp P o a w K' Q else K' (a.put o.dst undef) w) :
    wpAnyZ P md ops Q S z (fuel + 1) listed a w :=
  ⟨fun h0 => absurd (hr.symm.trans h0) (by simp), by
    rw [hr]
    intro j hj
    rcases List.mem_singleton.1 hj with rfl
    refine wpOp_step ho (fun K' hK => h K' (fun a w hq => hK a w ⟨.inl hz, ?_⟩))
    cases fuel with
    | zero => exact ⟨hr2, hq⟩
    | succ n => exact ⟨fun _ => hq, by rw [hr2]; intro k hk; exact absurd hk List.not_mem_nil⟩⟩
theorem wp_region_Z {id : Nat} {a : Act} {w : World} (z : Nat) (hm : P.follows .mixedOrders = true) (S : World → Prop) (hS : S w.drew)
    (h : S w.drew → wpAnyZ P .any ops Q S z ops.size (Array.replicate ops.size false) a w.drew) : (Code.region id ops true).wp P Q a w :=
  wp_region_any hm (wpAny_of_Z _ _ _ _ (h hS))
end
end Go.Proofs.Ytlmkokeapbleoaa
end
section
namespace Go.Proofs.Ytlmkokeapbleoaa
open Go.RowKit
def StageP (l : List PartL) : Prop := True
theorem infoPv : (Try.prog.info? 125).map (fun i => (i.zero, i.size, i.bytes)) = some (some (.agg #[.int .i64 0, .int .i64 0, .int .i64 0, .int .i64 0]), 4, 32) := by kernel_rfl
theorem infoIv : (Try.prog.info? 3).map (fun i => (i.zero, i.size, i.bytes)) = some (some (.int .i64 0), 1, 8) := by kernel_rfl
theorem tyIP2 : (3 : TypeId) ≠ 125 := by decide
theorem tyPI : (125 : TypeId) ≠ 3 := by decide
theorem MapRw.keepT {α : Type} {T : TypeId} {size : Nat} {f : α → List Value} {mb base : Nat} {g : Int → List α} {L : List (Int × Item α)} {W W' : World} (h : MapRw T size f mb base g L W) (hm : W'.heap[mb]? = W.heap[mb]?) (hk : ∀ k, base ≤ k → k < W.heap.size → (∃ cur, W.heap[k]? = some (.cells cur T (0, 0))) → W'.heap[k]? = W.heap[k]?) : MapRw T size f mb base g L W' :=
  ⟨h.mp.same hm, fun x hx => own_keep (h.sets x hx) fun k hA => hk k (own_ty (h.sets x hx) hA).1 (own_ty (h.sets x hx) hA).2.1 (own_ty (h.sets x hx) hA).2.2, h.apart, h.val, h.none⟩
theorem inRange_iff {t : TermL} {gs : List (List Sp)} {r : List Sp} (hr : Rep r (InnS t gs)) {x0 x1 : Int} (h0 : nthS r 0 = some x0) (h1 : nthS r (cnt r - 1) = some x1) : InRange t gs ↔ (0 ≤ x0 ∧ x1 ≤ 1114111) := by
  have hp := hr.1
  rcases last_cases r with rfl | ⟨m, q, hm⟩
  · simp [nthS] at h0
  · have hl : x1 = q.2 := by
      rw [hm] at hp h1
      rw [nthS_last hp] at h1
      injection h1 with h1; exact h1.symm
    have hq := PlainF.spw hp (Int.le_refl _) q (by rw [hm]; simp)
    rcases hr0 : r with _ | ⟨p, r2⟩
    · rw [hr0] at h0; simp [nthS] at h0
    · have hf : x0 = p.1 := by
        rw [hr0] at hp h0
        rw [nthS_first hp] at h0
        injection h0 with h0; exact h0.symm
      have hpp := PlainF.spw hp (Int.le_refl _) p (by rw [hr0]; simp)
      have i0 : InnS t gs x0 := (hr.2 x0).1 ((InS_iff _ _).2 ⟨p, by rw [hr0]; simp, by omega, by omega⟩)
      have i1 : InnS t gs x1 := (hr.2 x1).1 ((InS_iff _ _).2 ⟨q, by rw [hm]; simp, by omega, by omega⟩)
      constructor
      · intro h
        exact ⟨(h _ i0).1, (h _ i1).2⟩
      · rintro ⟨g0, g1⟩ v hv
        obtain ⟨y, hy, h2, h3⟩ := (InS_iff _ _).1 ((hr.2 v).2 hv)
        constructor
        · have hlow : p.1 ≤ y.1 := by
            rw [hr0] at hp hy
            obtain ⟨a1, a2, a3, a4⟩ := hp
            rcases List.mem_cons.1 hy with e | e
            · rw [e]; exact Int.le_refl _
            · have := PlainF.low a4 ((InS_iff _ _).2 ⟨y, e, Int.le_refl _, by omega⟩); omega
          omega
        · have hhi : y.2 ≤ q.2 := by
            rw [hm] at hp hy
            rcases List.mem_append.1 hy with e | e
            · have := (PlainF.last hp).2.1 y e; omega
            · simp at e; rw [e]; exact Int.le_refl _
          omega
theorem cells4 {W : World} {b : Nat} {x1 x2 x3 x4 : Int} {t : TypeId} (h : W.heap[b]? = some (.cells #[.int .i64 x1, .int .i64 x2, .int .i64 x3, .int .i64 x4] t (0, 0))) : W.cell? ⟨b, 0, none⟩ = some (.int .i64 x1) ∧ W.cell? ⟨b, 1, none⟩ = some (.int .i64 x2) ∧ W.cell? ⟨b, 2, none⟩ = some (.int .i64 x3) ∧ W.cell? ⟨b, 3, none⟩ = some (.int .i64 x4) := by
  simp [World.cell?, h]
section
variable {w0 w : World} {F : World → Prop}
theorem values_st (hK : Hid (St w0 w F)) {A : Option Addr} {l : List PartL} (hp : ∀ W, F W → PartsAt A l W) (b d t u s : Int) (c : Nat) {B : Option Addr} {O : List (Item Sp)} (hb : ∀ W, F W → LLx B O W) (cb : Nat)
    (hn : Hid (NumsOk ⟨b, d, t, u, s, l⟩)) (hpo : Hid (∀ p ∈ l, PartOk O.length p)) (hO : Hid (∀ g ∈ bodies O, g ≠ [] ∧ Plain g ∧ ∀ x, InS g x → 0 ≤ x ∧ x ≤ 1114111)) (r : List Sp) (hr : Hid (Rep r (InnS ⟨b, d, t, u, s, l⟩ (bodies O)))) (ok : Bool) (hok : Hid (pB (InRange ⟨b, d, t, u, s, l⟩ (bodies O)) = ok)) (hst : StageP l) :
    Calls Try.prog 84 #[.agg #[.int .i64 b, .int .i64 d, .int .i64 t, .int .i64 u, .int .i64 s, .slice A l.length c], .slice B O.length cb] w (RetLB2 w0 r ok F) := by
  have HP := Lib.hid hp
  have HB := Lib.hid hb
  have hl4 : l.length ≤ 4 := hn.out.2.2.2.2
  have HSS : Hid (SmallN s) := Lib.hid hn.out.2.1
  have HBI : Hid (∀ p ∈ l, bitsB p.2.1 p.2.2.1 p.2.2.2 = true) := Lib.hid fun p hp => bitsOk_b (hpo.out p hp).2.2
  have HK := St.box hK [.int .i64 b, .int .i64 d, .int .i64 t, .int .i64 u, .int .i64 s, .slice A l.length c] 100
  obtain ⟨w1, hw1⟩ : ∃ z, w.alloc (.cells [.int .i64 b, .int .i64 d, .int .i64 t, .int .i64 u, .int .i64 s, .slice A l.length c].toArray 100) = z := ⟨_, rfl⟩
  have hs1 : w1.heap.size = w.heap.size + 1 := by rw [← hw1]; simp
  rw [hw1] at HK
  have HM0 := Lib.hid (fun base => MapRw.start (T := 125) (size := 4) (f := partC) w1 base)
  obtain ⟨w3, hw3⟩ : ∃ z, w1.alloc (.map #[] 0) = z := ⟨_, rfl⟩
  have hs3 : w3.heap.size = w.heap.size + 2 := by rw [← hw3]; simp; omega
  have HB13 : Hid (Below w1.heap.size w1 w3) := Lib.hid (by rw [← hw3]; exact (Below.refl _ _).alloc (Nat.le_refl _) _)
  rw [hw3, hs1] at HM0
  rw [hs1] at HB13
  have hq5 := (HK.out.step (by rw [hs1]; exact HB13.out)).now.1 5 _ rfl
  have hmm := @run_makeMap Try.prog
  obtain ⟨j0, ji, jz0, jz1, jz2⟩ := info_parts infoIv
  obtain ⟨i0, hi, hz0, hz1, hz2⟩ := info_parts infoPv
  have HS1 := Lib.hid hs1
  have HS3 := Lib.hid hs3
  clear hp hb
  go_enter Try.func84, Try.ntmps84
  go_wp2_with fail
  (try rw [hw1]); (try rw [hs1]); (try rw [hw3])
  clear hmm hw1 hw3
  go_loopw [7, 21] (fun pv iv wr => ∃ (k : Nat) (L : List (Int × Item PartL)) (PA : Option Addr) (pc : Nat), k ≤ l.length ∧ iv = .int .i64 k ∧ pv = .slice PA (plV (l.take k)).length pc ∧ L.length ≤ k ∧ Hid (MapRw 125 4 partC (w.heap.size + 1) w3.heap.size (OneAt (l.take k)) L wr) ∧
      Hid (wr.ownsRow w3.heap.size 3 1 (.slice PA (plV (l.take k)).length pc) (plV (l.take k)).length ((plV (l.take k)).map (Value.int .i64))) ∧ Hid (w3.heap.size ≤ wr.heap.size ∧ Below (w.heap.size + 1) w1 wr)) (fun _ iv _ => l.length - (intOf iv).toNat)
  case atStart =>
    refine ⟨0, [], none, 0, Nat.zero_le _, rfl, rfl, Nat.zero_le _, Lib.hid (HM0.out _), Lib.hid (World.ownsRow_nil _ _ _ _), Lib.hid ⟨Nat.le_refl _, HB13.out⟩⟩
  case round =>
  clear hq5
  obtain ⟨k, L, PA, pc, hk, rfl, rfl, hLk, HMP, HPL, HFR⟩ := hrel
  have HKr := Lib.hid (HK.out.step (by rw [HS1.out]; exact HFR.out.2))
  have hbs := HFR.out.1
  by_cases hlt : k < l.length
  case pos =>
    obtain ⟨pb, off, p, rfl, hx, hw, hd0, hd1, hd2, hd3⟩ := (HP.out _ HKr.out.now.2).at_ hlt
    have HX := Lib.hid hx
    have HPW : Hid (PartW p) := Lib.hid hw
    obtain ⟨x1, x2, x3, x4⟩ := p
    simp only at hd0 hd1 hd2 hd3
    obtain ⟨A6, c6, hl6, hown6, hlook⟩ := HMP.out.look (mt := 145) (et := 98) (n := x1) hw.1 Try.underlying145 (fun W => Try.zeroValue98 W)
    have HL6 := Lib.hid hl6
    have HOWN6 := Lib.hid hown6
    have HLOOK := Lib.hid hlook
    have hlt1 : plV (l.take (k + 1)) = if x1 ∈ plV (l.take k) then plV (l.take k) else plV (l.take k) ++ [x1] := by rw [take_snoc? HX.out]; exact plV_snoc _ _
    have hpl4 : (plV (l.take k)).length ≤ 4 := by
      have h1 := plV_len (l.take k)
      have h2 : (l.take k).length ≤ l.length := by rw [List.length_take]; omega
      omega
    have HNB : Hid (∀ y ∈ L, ∀ j, ownA y.2.1 = some j → j < wr.heap.size) := Lib.hid fun y hy j hj => (own_ty (HMP.out.sets y hy) hj).2.1
    have hbx : ∀ o : Obj, wr.heap.size < (wr.alloc o).heap.size := fun o => by simp
    have HBX := Lib.hid (heap_alloc_new wr (.cells #[.int .i64 x1, .int .i64 x2, .int .i64 x3, .int .i64 x4] 125))
    clear hx hw hl6 hown6
    by_cases hin : x1 ∈ plV (l.take k)
    · rw [if_pos hin] at hlt1
      have hne : (((OneAt (l.take k) x1).length : Int) == 0) = false := by
        rw [beq_eq_false_iff_ne]
        intro h
        exact oneAt_ne hin (List.eq_nil_of_length_eq_zero (by omega))
      have HLK := Lib.hid (hlook (wr.alloc (.cells #[.int .i64 x1, .int .i64 x2, .int .i64 x3, .int .i64 x4] 125)) (Below.heap_alloc _ _ _ HMP.out.mp.lt))
      have hlk := HLK.out
      have HLT1 := Lib.hid hlt1
      have HIN := Lib.hid hin
      clear hlook hlt1 hin
      go_wp2_with fail
      have hX := cells4 HBX.out
      have HMPX := Lib.hid (HMP.out.below ((Below.refl wr.heap.size wr).alloc (Nat.le_refl _) (.cells #[.int .i64 x1, .int .i64 x2, .int .i64 x3, .int .i64 x4] 125)))
      have HPLX : Hid ((wr.alloc (.cells #[.int .i64 x1, .int .i64 x2, .int .i64 x3, .int .i64 x4] 125)).ownsRow w3.heap.size 3 1 (.slice PA (plV (l.take (k + 1))).length pc) (plV (l.take (k + 1))).length ((plV (l.take (k + 1))).map (Value.int .i64))) := Lib.hid (by rw [HLT1.out]; exact HPL.out.alloc _)
      have HFX : Hid (w3.heap.size ≤ (wr.alloc (.cells #[.int .i64 x1, .int .i64 x2, .int .i64 x3, .int .i64 x4] 125)).heap.size ∧ Below (w.heap.size + 1) w1 (wr.alloc (.cells #[.int .i64 x1, .int .i64 x2, .int .i64 x3, .int .i64 x4] 125)) ∧ wr.heap.size < (wr.alloc (.cells #[.int .i64 x1, .int .i64 x2, .int .i64 x3, .int .i64 x4] 125)).heap.size) := Lib.hid ⟨by simp; omega, HFR.out.2.alloc (by have := HS3.out; omega) _, by simp⟩
      rw [← HLT1.out]
      obtain ⟨wX, hwX⟩ : ∃ z, wr.alloc (.cells #[.int .i64 x1, .int .i64 x2, .int .i64 x3, .int .i64 x4] 125) = z := ⟨_, rfl⟩
      rw [hwX] at hX HMPX HPLX HFX
      (try rw [hwX])
      clear hwX HLK hlk hbx
      obtain ⟨wA, hwA⟩ : ∃ z, World.drew wX = z := ⟨_, rfl⟩
      have hA0 : wA.cell? ⟨wr.heap.size, 0, none⟩ = some (.int .i64 x1) := by rw [← hwA]; exact hX.1
      have hA1 : wA.cell? ⟨wr.heap.size, 1, none⟩ = some (.int .i64 x2) := by rw [← hwA]; exact hX.2.1
      have hA2 : wA.cell? ⟨wr.heap.size, 2, none⟩ = some (.int .i64 x3) := by rw [← hwA]; exact hX.2.2.1
      have hA3 : wA.cell? ⟨wr.heap.size, 3, none⟩ = some (.int .i64 x4) := by rw [← hwA]; exact hX.2.2.2
      have HMPA : Hid (MapRw 125 4 partC (w.heap.size + 1) w3.heap.size (OneAt (l.take k)) L wA) := Lib.hid (by rw [← hwA]; exact HMPX.out.keep fun _ _ _ => rfl)
      have HPLA : Hid (wA.ownsRow w3.heap.size 3 1 (.slice PA (plV (l.take (k + 1))).length pc) (plV (l.take (k + 1))).length ((plV (l.take (k + 1))).map (Value.int .i64))) := Lib.hid (by rw [← hwA]; exact HPLX.out.drew)
      have HFA : Hid (w3.heap.size ≤ wA.heap.size ∧ Below (w.heap.size + 1) w1 wA ∧ wr.heap.size < wA.heap.size) := Lib.hid (by rw [← hwA]; exact ⟨HFX.out.1, HFX.out.2.1.drew, HFX.out.2.2⟩)
      obtain ⟨A6, c6, hl6, hown6, hlook⟩ := HMPA.out.look (mt := 145) (et := 98) (n := x1) HPW.out.1 Try.underlying145 (fun W => Try.zeroValue98 W)
      have HL6 := Lib.hid hl6
      have HOWN6 := Lib.hid hown6
      have HL6b : Hid (∀ j, ownA A6 = some j → w3.heap.size ≤ j ∧ j < wr.heap.size) := Lib.hid fun j hj => by
        refine ⟨(own_ty hown6 hj).1, ?_⟩
        rcases hl6 with ⟨y, hy, rfl⟩ | ⟨_, rfl, _⟩
        · exact HNB.out _ hy j hj
        · cases hj
      have HLOOK := Lib.hid hlook
      have hol : (OneAt (l.take k) x1).length ≤ 4 := by
        have h1 := oneAt_len (l.take k) x1
        have h2 : (l.take k).length ≤ l.length := by rw [List.length_take]; omega
        omega
      have hbA := HFA.out.1
      have hmA : w.heap.size + 1 < wA.heap.size := by have := HS3.out; omega
      clear hl6 hown6 hlook
      refine wp_region_Z 10 (by kernel_rfl) (fun W => (W.cell? ⟨wr.heap.size, 0, none⟩ = some (.int .i64 x1) ∧ W.cell? ⟨wr.heap.size, 1, none⟩ = some (.int .i64 x2) ∧ W.cell? ⟨wr.heap.size, 2, none⟩ = some (.int .i64 x3) ∧ W.cell? ⟨wr.heap.size, 3, none⟩ = some (.int .i64 x4)) ∧ W.heap[w.heap.size + 1]? = wA.heap[w.heap.size + 1]?) (by rw [hwA]; exact ⟨⟨hA0, hA1, hA2, hA3⟩, rfl⟩) (fun hHeld => ?_)
      refine wpAnyZ_take (i := 0) (v := ?_) rfl (by kernel_rfl) (by kernel_rfl) (by kernel_rfl) (by kernel_rfl) (fun _ _ _ h => h) (Or.inl ⟨by first | kernel_rfl | rfl, ?_⟩) (by assumption) ?_
      rotate_left
      · intro w hSw; (try dsimp only at hSw); go_simp; (try with_reducible rfl)
      (try simp only [Act.put, List.getElem_toArray, List.getElem_cons_succ, List.getElem_cons_zero, List.setIfInBounds_toArray, List.set_cons_zero, List.set_cons_succ])
      refine wpAnyZ_take (i := 1) (v := ?_) rfl (by kernel_rfl) (by kernel_rfl) (by kernel_rfl) (by kernel_rfl) (fun _ _ _ h => h) (Or.inl ⟨by first | kernel_rfl | rfl, ?_⟩) (by assumption) ?_
      rotate_left
      · intro w hSw; (try dsimp only at hSw); go_simp; (try with_reducible rfl)
      (try simp only [Act.put, List.getElem_toArray, List.getElem_cons_succ, List.getElem_cons_zero, List.setIfInBounds_toArray, List.set_cons_zero, List.set_cons_succ])
      refine wpAnyZ_take (i := 2) (v := ?_) rfl (by kernel_rfl) (by kernel_rfl) (by kernel_rfl) (by kernel_rfl) (fun _ _ _ h => h) (Or.inl ⟨by first | kernel_rfl | rfl, ?_⟩) (by assumption) ?_
      rotate_left
      · intro w hSw; (try dsimp only at hSw); go_simp; (try with_reducible rfl)
      (try simp only [Act.put, List.getElem_toArray, List.getElem_cons_succ, List.getElem_cons_zero, List.setIfInBounds_toArray, List.set_cons_zero, List.set_cons_succ])
      refine wpAnyZ_take (i := 3) (v := ?_) rfl (by kernel_rfl) (by kernel_rfl) (by kernel_rfl) (by kernel_rfl) (fun _ _ _ h => h) (Or.inl ⟨by first | kernel_rfl | rfl, ?_⟩) (by assumption) ?_
      rotate_left
      · intro w hSw; (try dsimp only at hSw); go_simp; (try with_reducible rfl)
      (try simp only [Act.put, List.getElem_toArray, List.getElem_cons_succ, List.getElem_cons_zero, List.setIfInBounds_toArray, List.set_cons_zero, List.set_cons_succ])
      refine wpAnyZ_take (i := 4) (v := ?_) rfl (by kernel_rfl) (by kernel_rfl) (by kernel_rfl) (by kernel_rfl) (fun _ _ _ h => h) (Or.inl ⟨by first | kernel_rfl | rfl, ?_⟩) (by assumption) ?_
      rotate_left
      · intro w hSw; (try dsimp only at hSw); go_simp; (try with_reducible rfl)
      (try simp only [Act.put, List.getElem_toArray, List.getElem_cons_succ, List.getElem_cons_zero, List.setIfInBounds_toArray, List.set_cons_zero, List.set_cons_succ])
      refine wpAnyZ_take (i := 5) (v := ?_) rfl (by kernel_rfl) (by kernel_rfl) (by kernel_rfl) (by kernel_rfl) (fun _ _ _ h => h) (Or.inl ⟨by first | kernel_rfl | rfl, ?_⟩) (by assumption) ?_
      rotate_left
      · intro w hSw; (try dsimp only at hSw); go_simp; (try with_reducible rfl)
      (try simp only [Act.put, List.getElem_toArray, List.getElem_cons_succ, List.getElem_cons_zero, List.setIfInBounds_toArray, List.set_cons_zero, List.set_cons_succ])
      refine wpAnyZ_take (i := 6) (v := .slice A6 (OneAt (l.take k) x1).length c6) rfl (by kernel_rfl) (by kernel_rfl) (by kernel_rfl) (by kernel_rfl) (fun _ _ _ h => h) (yieldsIf_lookup (by first | kernel_rfl | rfl) rfl rfl rfl (fun W hS => HLOOK.out W hS.2)) (by assumption) ?_
      (try simp only [Act.put, List.getElem_toArray, List.getElem_cons_succ, List.getElem_cons_zero, List.setIfInBounds_toArray, List.set_cons_zero, List.set_cons_succ])
      refine wpAnyZ_take (i := 7) (v := ?_) rfl (by kernel_rfl) (by kernel_rfl) (by kernel_rfl) (by kernel_rfl) (fun _ _ _ h => h) (Or.inl ⟨by first | kernel_rfl | rfl, ?_⟩) (by assumption) ?_
      rotate_left
      · intro w hSw; (try dsimp only at hSw); go_simp; (try with_reducible rfl)
      (try simp only [Act.put, List.getElem_toArray, List.getElem_cons_succ, List.getElem_cons_zero, List.setIfInBounds_toArray, List.set_cons_zero, List.set_cons_succ])
      rw [hwA]
      refine wpAnyZ_ready (i := 8) (by kernel_rfl) rfl (fun K hK => ?_)
      go_simp
      have hSb : ((wA.alloc (.cells #[.int .i64 x1, .int .i64 x2, .int .i64 x3, .int .i64 x4] 125)).cell? ⟨wr.heap.size, 0, none⟩ = some (.int .i64 x1) ∧ (wA.alloc (.cells #[.int .i64 x1, .int .i64 x2, .int .i64 x3, .int .i64 x4] 125)).cell? ⟨wr.heap.size, 1, none⟩ = some (.int .i64 x2) ∧ (wA.alloc (.cells #[.int .i64 x1, .int .i64 x2, .int .i64 x3, .int .i64 x4] 125)).cell? ⟨wr.heap.size, 2, none⟩ = some (.int .i64 x3) ∧ (wA.alloc (.cells #[.int .i64 x1, .int .i64 x2, .int .i64 x3, .int .i64 x4] 125)).cell? ⟨wr.heap.size, 3, none⟩ = some (.int .i64 x4)) ∧ (wA.alloc (.cells #[.int .i64 x1, .int .i64 x2, .int .i64 x3, .int .i64 x4] 125)).heap[w.heap.size + 1]? = wA.heap[w.heap.size + 1]? :=
        ⟨⟨cellAlloc _ hA0, cellAlloc _ hA1, cellAlloc _ hA2, cellAlloc _ hA3⟩, Below.heap_alloc _ _ _ hmA⟩
      refine hK.out _ _ (hSb) (fun hHeld => ?_)
      clear hK K
      (try simp only [Act.put, List.getElem_toArray, List.getElem_cons_succ, List.getElem_cons_zero, List.setIfInBounds_toArray, List.set_cons_zero, List.set_cons_succ])
      refine wpAnyZ_ready (i := 9) (by kernel_rfl) rfl (fun K hK => ?_)
      refine step_pushG rfl _ _ 98 rfl w3.heap.size 125 i0 _ 4 32 Try.underlying98 hi hz0 hz1 hz2 rfl (by decide) HOWN6.out rfl [.int .i64 x1, .int .i64 x2, .int .i64 x3, .int .i64 x4] 125 rfl rfl (by simp [Value.oneCell']) (by omega) (by decide) hbA ?_
      intro A9 c9 w9 HO9 HG9 HN9
      have hmA6 : ownA A6 ≠ some (w.heap.size + 1) := fun e => by
        have h1 := (own_ty HOWN6.out e).1
        have h3 := HS3.out
        omega
      have hbA6 : ownA A6 ≠ some wr.heap.size := fun e => by
        have h1 := (HL6b.out _ e).2
        omega
      have h9m : w9.heap[w.heap.size + 1]? = wA.heap[w.heap.size + 1]? := (HG9.out.block _ (by simp; omega) (fun e => hmA6 e.symm)).trans hSb.2
      have h9c := hSb.1
      have h9c : w9.cell? ⟨wr.heap.size, 0, none⟩ = some (.int .i64 x1) ∧ w9.cell? ⟨wr.heap.size, 1, none⟩ = some (.int .i64 x2) ∧ w9.cell? ⟨wr.heap.size, 2, none⟩ = some (.int .i64 x3) ∧ w9.cell? ⟨wr.heap.size, 3, none⟩ = some (.int .i64 x4) :=
        ⟨HG9.out.cell hSb.1.1 (fun e => hbA6 e.symm), HG9.out.cell hSb.1.2.1 (fun e => hbA6 e.symm), HG9.out.cell hSb.1.2.2.1 (fun e => hbA6 e.symm), HG9.out.cell hSb.1.2.2.2 (fun e => hbA6 e.symm)⟩
      refine hK.out _ _ (⟨h9c, h9m⟩) (fun hHeld => ?_)
      clear hK K
      (try simp only [Act.put, List.getElem_toArray, List.getElem_cons_succ, List.getElem_cons_zero, List.setIfInBounds_toArray, List.set_cons_zero, List.set_cons_succ])
      have hkeyF : keyOf Try.prog 3 (.int .i64 x1) = some (.int .i64 x1) := Maps.keyOf_int_mk Try.underlying3 (by
        have := HPW.out.1; unfold I64 at this
        simp [Lit.wf, IntKind.min, IntKind.max, IntKind.signed, IntKind.bits]; omega)
      obtain ⟨wB, hrun, hMB, hGB, hSB⟩ := (HMPA.out.mp.same h9m).put (Maps.int_keyed Try.underlying3) Try.underlying145 (by rw [List.length_map]; unfold maxLen; omega) (.slice A9 ((OneAt (l.take k) x1).length + 1) c9) hkeyF
      obtain ⟨L2, hMP2, hfr2, hsz2, hbel2, hL2⟩ := HMPA.out.step (W7 := wA) (x := ((x1, x2, x3, x4) : PartL)) (by have := HS3.out; omega) hbA (Below.refl _ _) HL6.out HO9.out HG9.out HN9.out (by
        have e : ival ((A9, c9, OneAt (l.take k) x1 ++ [((x1, x2, x3, x4) : PartL)]) : Item PartL) = .slice A9 ((OneAt (l.take k) x1).length + 1) c9 := by simp [ival]
        rw [e]; exact hMB) hGB
      have HMP2 : Hid (MapRw 125 4 partC (w.heap.size + 1) w3.heap.size (OneAt (l.take (k + 1))) L2 wB) := Lib.hid (by
        have e : OneAt (l.take (k + 1)) = putG (OneAt (l.take k)) x1 (x1, x2, x3, x4) := by
          funext m
          rw [take_snoc? HX.out, oneAt_snoc]
          rfl
        rw [e]; exact hMP2)
      have HPL2 : Hid (wB.ownsRow w3.heap.size 3 1 (.slice PA (plV (l.take (k + 1))).length pc) (plV (l.take (k + 1))).length ((plV (l.take (k + 1))).map (Value.int .i64))) := Lib.hid (own_keep HPLA.out fun j hj => by
        have h1 := own_ty HPLA.out hj
        have h3 := HS3.out
        have h4 := HG9.out.size
        simp at h4
        exact (hGB.block j (by omega) (fun e => by injection e with e; omega)).trans ((HG9.out.block j (by simp; omega) (fun e => own_apart HPLA.out HOWN6.out tyIP2 j hj e.symm)).trans (Below.heap_alloc _ _ _ h1.2.1)))
      have HFR2 : Hid (w3.heap.size ≤ wB.heap.size ∧ Below (w.heap.size + 1) w1 wB) := Lib.hid ⟨Nat.le_trans hbA hsz2, HFA.out.2.1.trans (hbel2 (w.heap.size + 1) (Nat.le_refl _) (by omega))⟩
      refine wpAnyZ_last (i := 10) rfl (by kernel_rfl) (by kernel_rfl) rfl (fun K hK => ?_)
      refine wp_mapUpdate rfl rfl rfl rfl hrun ?_
      refine hK.out _ _ ?_
      have hlL : L2.length ≤ k + 1 := by omega
      have HLT := Lib.hid hlt
      clear hHeld hK K hrun hMB hGB hSB hMP2 hfr2 hsz2 hbel2 hL2 h9m h9c hSb hmA6 hbA6 hA0 hA1 hA2 hA3 hwA hlt hbs hmA hbA hkeyF hX
      (try simp only [Act.put, List.getElem_toArray, List.getElem_cons_succ, List.getElem_cons_zero, List.setIfInBounds_toArray, List.set_cons_zero, List.set_cons_succ])
      go_wp2_with fail
      go_roundw
      case rel => exact ⟨k + 1, L2, PA, pc, by have := HLT.out; omega, by go_num, rfl, hlL, HMP2, HPL2, HFR2⟩
      case measure => have := HLT.out; simp [intOf]; omega
    · rw [if_neg hin] at hlt1
      have hnil := oneAt_nil.2 hin
      have HLK := Lib.hid (hlook (wr.alloc (.cells #[.int .i64 x1, .int .i64 x2, .int .i64 x3, .int .i64 x4] 125)) (Below.heap_alloc _ _ _ HMP.out.mp.lt))
      rw [hnil] at HLK
      have hlk := HLK.out
      have HLT1 := Lib.hid hlt1
      have hz3 : w3.heap.size ≤ (wr.alloc (.cells #[.int .i64 x1, .int .i64 x2, .int .i64 x3, .int .i64 x4] 125)).heap.size := by simp; omega
      have HPA := Lib.hid (HPL.out.alloc (.cells #[.int .i64 x1, .int .i64 x2, .int .i64 x3, .int .i64 x4] 125))
      have hbC := heap_alloc_new wr (.cells #[.int .i64 x1, .int .i64 x2, .int .i64 x3, .int .i64 x4] 125)
      have h40 : (plV (l.take k)).length < 1099511627776 := by omega
      clear hlook hlt1 hin hnil hbC
      go_wp2_with (at_builtin; go_must (refine wpList_pushG rfl _ _ 45 rfl w3.heap.size 3 j0 _ 1 8 Try.underlying45 ji jz0 jz1 jz2 rfl (by decide) HPA.out rfl [.int .i64 x1] 3 (by first | rfl | (simp; rfl) | simp) rfl (by simp [Value.oneCell']) h40 (by decide) hz3 ?_); intro PB qc wX HO7 HG7 HN7)
      have hpne : ownA PA ≠ some wr.heap.size := fun e => by have := (own_ty HPL.out e).2.1; omega
      have hs7 := HG7.out.size
      simp at hs7
      have hX := cells4 (t := 125) ((HG7.out.block wr.heap.size (by simp; omega) (fun e => hpne e.symm)).trans ((Below.heap_alloc _ _ _ (by simp)).trans HBX.out))
      have hkeep : ∀ j, j < wr.heap.size → ownA PA ≠ some j → wX.heap[j]? = wr.heap[j]? := fun j hj hne => (HG7.out.block j (by simp; omega) (fun e => hne e.symm)).trans ((Below.heap_alloc _ _ _ (by simp; omega)).trans (Below.heap_alloc _ _ _ hj))
      have HMPX : Hid (MapRw 125 4 partC (w.heap.size + 1) w3.heap.size (OneAt (l.take k)) L wX) := Lib.hid (HMP.out.keepT (hkeep _ HMP.out.mp.lt (fun e => by have := (own_ty HPL.out e).1; have := HS3.out; omega)) fun j h1 h2 h3 => hkeep j h2 (fun e => by
        obtain ⟨cur, h4⟩ := h3
        obtain ⟨_, _, cur2, h5⟩ := own_ty HPL.out e
        rw [h4] at h5
        injection h5 with h5; injection h5 with _ h5
        exact tyPI h5))
      have HPLX : Hid (wX.ownsRow w3.heap.size 3 1 (.slice PB (plV (l.take (k + 1))).length qc) (plV (l.take (k + 1))).length ((plV (l.take (k + 1))).map (Value.int .i64))) := Lib.hid (by
        rw [HLT1.out, List.map_append, List.length_append]; exact HO7.out)
      have HFX : Hid (w3.heap.size ≤ wX.heap.size ∧ Below (w.heap.size + 1) w1 wX ∧ wr.heap.size < wX.heap.size) := Lib.hid ⟨by omega, ((HFR.out.2.alloc (by have := HS3.out; omega) _).alloc (by have := HS3.out; simp; omega) _).grown HG7.out (by have := HS3.out; simp; omega) (fun g hg => by have := (own_ty HPL.out hg).1; have := HS3.out; omega), by omega⟩
      have e1 : (plV (l.take k)).length + 1 = (plV (l.take (k + 1))).length := by rw [HLT1.out]; simp
      rw [e1]
      clear HLK hlk hbx hkeep hpne hs7 hz3 h40 e1 HO7 HG7 HN7 HPA
      obtain ⟨wA, hwA⟩ : ∃ z, World.drew wX = z := ⟨_, rfl⟩
      have hA0 : wA.cell? ⟨wr.heap.size, 0, none⟩ = some (.int .i64 x1) := by rw [← hwA]; exact hX.1
      have hA1 : wA.cell? ⟨wr.heap.size, 1, none⟩ = some (.int .i64 x2) := by rw [← hwA]; exact hX.2.1
      have hA2 : wA.cell? ⟨wr.heap.size, 2, none⟩ = some (.int .i64 x3) := by rw [← hwA]; exact hX.2.2.1
      have hA3 : wA.cell? ⟨wr.heap.size, 3, none⟩ = some (.int .i64 x4) := by rw [← hwA]; exact hX.2.2.2
      have HMPA : Hid (MapRw 125 4 partC (w.heap.size + 1) w3.heap.size (OneAt (l.take k)) L wA) := Lib.hid (by rw [← hwA]; exact HMPX.out.keep fun _ _ _ => rfl)
      have HPLA : Hid (wA.ownsRow w3.heap.size 3 1 (.slice PB (plV (l.take (k + 1))).length qc) (plV (l.take (k + 1))).length ((plV (l.take (k + 1))).map (Value.int .i64))) := Lib.hid (by rw [← hwA]; exact HPLX.out.drew)
      have HFA : Hid (w3.heap.size ≤ wA.heap.size ∧ Below (w.heap.size + 1) w1 wA ∧ wr.heap.size < wA.heap.size) := Lib.hid (by rw [← hwA]; exact ⟨HFX.out.1, HFX.out.2.1.drew, HFX.out.2.2⟩)
      obtain ⟨A6, c6, hl6, hown6, hlook⟩ := HMPA.out.look (mt := 145) (et := 98) (n := x1) HPW.out.1 Try.underlying145 (fun W => Try.zeroValue98 W)
      have HL6 := Lib.hid hl6
      have HOWN6 := Lib.hid hown6
      have HL6b : Hid (∀ j, ownA A6 = some j → w3.heap.size ≤ j ∧ j < wr.heap.size) := Lib.hid fun j hj => by
        refine ⟨(own_ty hown6 hj).1, ?_⟩
        rcases hl6 with ⟨y, hy, rfl⟩ | ⟨_, rfl, _⟩
        · exact HNB.out _ hy j hj
        · cases hj
      have HLOOK := Lib.hid hlook
      have hol : (OneAt (l.take k) x1).length ≤ 4 := by
        have h1 := oneAt_len (l.take k) x1
        have h2 : (l.take k).length ≤ l.length := by rw [List.length_take]; omega
        omega
      have hbA := HFA.out.1
      have hmA : w.heap.size + 1 < wA.heap.size := by have := HS3.out; omega
      clear hl6 hown6 hlook
      refine wp_region_Z 10 (by kernel_rfl) (fun W => (W.cell? ⟨wr.heap.size, 0, none⟩ = some (.int .i64 x1) ∧ W.cell? ⟨wr.heap.size, 1, none⟩ = some (.int .i64 x2) ∧ W.cell? ⟨wr.heap.size, 2, none⟩ = some (.int .i64 x3) ∧ W.cell? ⟨wr.heap.size, 3, none⟩ = some (.int .i64 x4)) ∧ W.heap[w.heap.size + 1]? = wA.heap[w.heap.size + 1]?) (by rw [hwA]; exact ⟨⟨hA0, hA1, hA2, hA3⟩, rfl⟩) (fun hHeld => ?_)
      refine wpAnyZ_take (i := 0) (v := ?_) rfl (by kernel_rfl) (by kernel_rfl) (by kernel_rfl) (by kernel_rfl) (fun _ _ _ h => h) (Or.inl ⟨by first | kernel_rfl | rfl, ?_⟩) (by assumption) ?_
      rotate_left
      · intro w hSw; (try dsimp only at hSw); go_simp; (try with_reducible rfl)
      (try simp only [Act.put, List.getElem_toArray, List.getElem_cons_succ, List.getElem_cons_zero, List.setIfInBounds_toArray, List.set_cons_zero, List.set_cons_succ])
      refine wpAnyZ_take (i := 1) (v := ?_) rfl (by kernel_rfl) (by kernel_rfl) (by kernel_rfl) (by kernel_rfl) (fun _ _ _ h => h) (Or.inl ⟨by first | kernel_rfl | rfl, ?_⟩) (by assumption) ?_
      rotate_left
      · intro w hSw; (try dsimp only at hSw); go_simp; (try with_reducible rfl)
      (try simp only [Act.put, List.getElem_toArray, List.getElem_cons_succ, List.getElem_cons_zero, List.setIfInBounds_toArray, List.set_cons_zero, List.set_cons_succ])
      refine wpAnyZ_take (i := 2) (v := ?_) rfl (by kernel_rfl) (by kernel_rfl) (by kernel_rfl) (by kernel_rfl) (fun _ _ _ h => h) (Or.inl ⟨by first | kernel_rfl | rfl, ?_⟩) (by assumption) ?_
      rotate_left
      · intro w hSw; (try dsimp only at hSw); go_simp; (try with_reducible rfl)
      (try simp only [Act.put, List.getElem_toArray, List.getElem_cons_succ, List.getElem_cons_zero, List.setIfInBounds_toArray, List.set_cons_zero, List.set_cons_succ])
      refine wpAnyZ_take (i := 3) (v := ?_) rfl (by kernel_rfl) (by kernel_rfl) (by kernel_rfl) (by kernel_rfl) (fun _ _ _ h => h) (Or.inl ⟨by first | kernel_rfl | rfl, ?_⟩) (by assumption) ?_
      rotate_left
      · intro w hSw; (try dsimp only at hSw); go_simp; (try with_reducible rfl)
      (try simp only [Act.put, List.getElem_toArray, List.getElem_cons_succ, List.getElem_cons_zero, List.setIfInBounds_toArray, List.set_cons_zero, List.set_cons_succ])
      refine wpAnyZ_take (i := 4) (v := ?_) rfl (by kernel_rfl) (by kernel_rfl) (by kernel_rfl) (by kernel_rfl) (fun _ _ _ h => h) (Or.inl ⟨by first | kernel_rfl | rfl, ?_⟩) (by assumption) ?_
      rotate_left
      · intro w hSw; (try dsimp only at hSw); go_simp; (try with_reducible rfl)
      (try simp only [Act.put, List.getElem_toArray, List.getElem_cons_succ, List.getElem_cons_zero, List.setIfInBounds_toArray, List.set_cons_zero, List.set_cons_succ])
      refine wpAnyZ_take (i := 5) (v := ?_) rfl (by kernel_rfl) (by kernel_rfl) (by kernel_rfl) (by kernel_rfl) (fun _ _ _ h => h) (Or.inl ⟨by first | kernel_rfl | rfl, ?_⟩) (by assumption) ?_
      rotate_left
      · intro w hSw; (try dsimp only at hSw); go_simp; (try with_reducible rfl)
      (try simp only [Act.put, List.getElem_toArray, List.getElem_cons_succ, List.getElem_cons_zero, List.setIfInBounds_toArray, List.set_cons_zero, List.set_cons_succ])
      refine wpAnyZ_take (i := 6) (v := .slice A6 (OneAt (l.take k) x1).length c6) rfl (by kernel_rfl) (by kernel_rfl) (by kernel_rfl) (by kernel_rfl) (fun _ _ _ h => h) (yieldsIf_lookup (by first | kernel_rfl | rfl) rfl rfl rfl (fun W hS => HLOOK.out W hS.2)) (by assumption) ?_
      (try simp only [Act.put, List.getElem_toArray, List.getElem_cons_succ, List.getElem_cons_zero, List.setIfInBounds_toArray, List.set_cons_zero, List.set_cons_succ])
      refine wpAnyZ_take (i := 7) (v := ?_) rfl (by kernel_rfl) (by kernel_rfl) (by kernel_rfl) (by kernel_rfl) (fun _ _ _ h => h) (Or.inl ⟨by first | kernel_rfl | rfl, ?_⟩) (by assumption) ?_
      rotate_left
      · intro w hSw; (try dsimp only at hSw); go_simp; (try with_reducible rfl)
      (try simp only [Act.put, List.getElem_toArray, List.getElem_cons_succ, List.getElem_cons_zero, List.setIfInBounds_toArray, List.set_cons_zero, List.set_cons_succ])
      rw [hwA]
      refine wpAnyZ_ready (i := 8) (by kernel_rfl) rfl (fun K hK => ?_)
      go_simp
      have hSb : ((wA.alloc (.cells #[.int .i64 x1, .int .i64 x2, .int .i64 x3, .int .i64 x4] 125)).cell? ⟨wr.heap.size, 0, none⟩ = some (.int .i64 x1) ∧ (wA.alloc (.cells #[.int .i64 x1, .int .i64 x2, .int .i64 x3, .int .i64 x4] 125)).cell? ⟨wr.heap.size, 1, none⟩ = some (.int .i64 x2) ∧ (wA.alloc (.cells #[.int .i64 x1, .int .i64 x2, .int .i64 x3, .int .i64 x4] 125)).cell? ⟨wr.heap.size, 2, none⟩ = some (.int .i64 x3) ∧ (wA.alloc (.cells #[.int .i64 x1, .int .i64 x2, .int .i64 x3, .int .i64 x4] 125)).cell? ⟨wr.heap.size, 3, none⟩ = some (.int .i64 x4)) ∧ (wA.alloc (.cells #[.int .i64 x1, .int .i64 x2, .int .i64 x3, .int .i64 x4] 125)).heap[w.heap.size + 1]? = wA.heap[w.heap.size + 1]? :=
        ⟨⟨cellAlloc _ hA0, cellAlloc _ hA1, cellAlloc _ hA2, cellAlloc _ hA3⟩, Below.heap_alloc _ _ _ hmA⟩
      refine hK.out _ _ (hSb) (fun hHeld => ?_)
      clear hK K
      (try simp only [Act.put, List.getElem_toArray, List.getElem_cons_succ, List.getElem_cons_zero, List.setIfInBounds_toArray, List.set_cons_zero, List.set_cons_succ])
      refine wpAnyZ_ready (i := 9) (by kernel_rfl) rfl (fun K hK => ?_)
      refine step_pushG rfl _ _ 98 rfl w3.heap.size 125 i0 _ 4 32 Try.underlying98 hi hz0 hz1 hz2 rfl (by decide) HOWN6.out rfl [.int .i64 x1, .int .i64 x2, .int .i64 x3, .int .i64 x4] 125 rfl rfl (by simp [Value.oneCell']) (by omega) (by decide) hbA ?_
      intro A9 c9 w9 HO9 HG9 HN9
      have hmA6 : ownA A6 ≠ some (w.heap.size + 1) := fun e => by
        have h1 := (own_ty HOWN6.out e).1
        have h3 := HS3.out
        omega
      have hbA6 : ownA A6 ≠ some wr.heap.size := fun e => by
        have h1 := (HL6b.out _ e).2
        omega
      have h9m : w9.heap[w.heap.size + 1]? = wA.heap[w.heap.size + 1]? := (HG9.out.block _ (by simp; omega) (fun e => hmA6 e.symm)).trans hSb.2
      have h9c := hSb.1
      have h9c : w9.cell? ⟨wr.heap.size, 0, none⟩ = some (.int .i64 x1) ∧ w9.cell? ⟨wr.heap.size, 1, none⟩ = some (.int .i64 x2) ∧ w9.cell? ⟨wr.heap.size, 2, none⟩ = some (.int .i64 x3) ∧ w9.cell? ⟨wr.heap.size, 3, none⟩ = some (.int .i64 x4) :=
        ⟨HG9.out.cell hSb.1.1 (fun e => hbA6 e.symm), HG9.out.cell hSb.1.2.1 (fun e => hbA6 e.symm), HG9.out.cell hSb.1.2.2.1 (fun e => hbA6 e.symm), HG9.out.cell hSb.1.2.2.2 (fun e => hbA6 e.symm)⟩
      refine hK.out _ _ (⟨h9c, h9m⟩) (fun hHeld => ?_)
      clear hK K
      (try simp only [Act.put, List.getElem_toArray, List.getElem_cons_succ, List.getElem_cons_zero, List.setIfInBounds_toArray, List.set_cons_zero, List.set_cons_succ])
      have hkeyF : keyOf Try.prog 3 (.int .i64 x1) = some (.int .i64 x1) := Maps.keyOf_int_mk Try.underlying3 (by
        have := HPW.out.1; unfold I64 at this
        simp [Lit.wf, IntKind.min, IntKind.max, IntKind.signed, IntKind.bits]; omega)
      obtain ⟨wB, hrun, hMB, hGB, hSB⟩ := (HMPA.out.mp.same h9m).put (Maps.int_keyed Try.underlying3) Try.underlying145 (by rw [List.length_map]; unfold maxLen; omega) (.slice A9 ((OneAt (l.take k) x1).length + 1) c9) hkeyF
      obtain ⟨L2, hMP2, hfr2, hsz2, hbel2, hL2⟩ := HMPA.out.step (W7 := wA) (x := ((x1, x2, x3, x4) : PartL)) (by have := HS3.out; omega) hbA (Below.refl _ _) HL6.out HO9.out HG9.out HN9.out (by
        have e : ival ((A9, c9, OneAt (l.take k) x1 ++ [((x1, x2, x3, x4) : PartL)]) : Item PartL) = .slice A9 ((OneAt (l.take k) x1).length + 1) c9 := by simp [ival]
        rw [e]; exact hMB) hGB
      have HMP2 : Hid (MapRw 125 4 partC (w.heap.size + 1) w3.heap.size (OneAt (l.take (k + 1))) L2 wB) := Lib.hid (by
        have e : OneAt (l.take (k + 1)) = putG (OneAt (l.take k)) x1 (x1, x2, x3, x4) := by
          funext m
          rw [take_snoc? HX.out, oneAt_snoc]
          rfl
        rw [e]; exact hMP2)
      have HPL2 : Hid (wB.ownsRow w3.heap.size 3 1 (.slice PB (plV (l.take (k + 1))).length qc) (plV (l.take (k + 1))).length ((plV (l.take (k + 1))).map (Value.int .i64))) := Lib.hid (own_keep HPLA.out fun j hj => by
        have h1 := own_ty HPLA.out hj
        have h3 := HS3.out
        have h4 := HG9.out.size
        simp at h4
        exact (hGB.block j (by omega) (fun e => by injection e with e; omega)).trans ((HG9.out.block j (by simp; omega) (fun e => own_apart HPLA.out HOWN6.out tyIP2 j hj e.symm)).trans (Below.heap_alloc _ _ _ h1.2.1)))
      have HFR2 : Hid (w3.heap.size ≤ wB.heap.size ∧ Below (w.heap.size + 1) w1 wB) := Lib.hid ⟨Nat.le_trans hbA hsz2, HFA.out.2.1.trans (hbel2 (w.heap.size + 1) (Nat.le_refl _) (by omega))⟩
      refine wpAnyZ_last (i := 10) rfl (by kernel_rfl) (by kernel_rfl) rfl (fun K hK => ?_)
      refine wp_mapUpdate rfl rfl rfl rfl hrun ?_
      refine hK.out _ _ ?_
      have hlL : L2.length ≤ k + 1 := by omega
      have HLT := Lib.hid hlt
      clear hHeld hK K hrun hMB hGB hSB hMP2 hfr2 hsz2 hbel2 hL2 h9m h9c hSb hmA6 hbA6 hA0 hA1 hA2 hA3 hwA hlt hbs hmA hbA hkeyF hX
      (try simp only [Act.put, List.getElem_toArray, List.getElem_cons_succ, List.getElem_cons_zero, List.setIfInBounds_toArray, List.set_cons_zero, List.set_cons_succ])
      go_wp2_with fail
      go_roundw
      case rel => exact ⟨k + 1, L2, PB, qc, by have := HLT.out; omega, by go_num, rfl, hlL, HMP2, HPL2, HFR2⟩
      case measure => have := HLT.out; simp [intOf]; omega
  obtain rfl : k = l.length := by omega
  rw [List.take_length] at HMP HPL
  rw [List.take_length]
  obtain ⟨P, hP⟩ : ∃ P, plV l = P := ⟨_, rfl⟩
  rw [hP] at HPL
  rw [hP]
  have HPE := Lib.hid hP
  have hP4 : P.length ≤ 4 := by rw [← hP]; exact Nat.le_trans (plV_len l) hl4
  have HPB : Hid (∀ a ∈ P, 0 ≤ a ∧ a < (O.length : Int)) := Lib.hid fun a ha => by
    rw [← hP] at ha
    obtain ⟨p, hp, rfl⟩ := (plV_mem l a).1 ha
    exact ⟨(hpo.out p hp).1, (hpo.out p hp).2.1⟩
  have hOl := (HB.out _ HKr.out.now.2).2
  have HKb := Lib.hid (HKr.out.add (Below.refl _ _) (G := fun W => MapRw 125 4 partC (w.heap.size + 1) w3.heap.size (OneAt l) L W ∧ IntsAt PA P W) fun W hW => ⟨HMP.out.below hW, by
    refine ⟨?_, fun x hx => ?_, by omega⟩
    · have h1 : Sl wr 1 PA P.length (P.map (Value.int .i64)) := Sl.of_own HPL.out
      have h2 := h1.below (B := 0) hW
      rwa [List.map_eq_flatMap] at h2
    · have h1 := HPB.out x hx
      unfold I64; omega⟩)
  obtain ⟨F3, hF3⟩ : ∃ G : World → Prop, (fun W => (MapRw 125 4 partC (w.heap.size + 1) w3.heap.size (OneAt l) L W ∧ IntsAt PA P W) ∧ BoxC w.heap.size [.int .i64 b, .int .i64 d, .int .i64 t, .int .i64 u, .int .i64 s, .slice A l.length c] W ∧ F W) = G := ⟨_, rfl⟩
  have HF3 : Hid (∀ W, F3 W → (MapRw 125 4 partC (w.heap.size + 1) w3.heap.size (OneAt l) L W ∧ IntsAt PA P W) ∧ BoxC w.heap.size [.int .i64 b, .int .i64 d, .int .i64 t, .int .i64 u, .int .i64 s, .slice A l.length c] W ∧ F W) := Lib.hid fun W h => by rw [← hF3] at h; exact h
  rw [hF3] at HKb
  have hc4 := (HF3.out _ HKb.out.now).2.1 4 _ rfl
  have hd : decide (l.length < l.length) = false := by simp
  have hs1 := HSS.out.1
  have hs2 := HSS.out.2
  clear hF3 hP HPL HMP hLk hbs hlt HKr HFR hOl
  go_wp2_with fail
  have HK3 := St.lit HKb (s, s) (by intro p hp; simp at hp; subst hp; simp; omega)
  clear hc4 hd
  go_loopw [10, 55] (fun ov iv wr2 => ∃ (k : Nat) (A1 : Option Addr) (c1 : Nat) (r1 : List Sp), k ≤ P.length ∧ iv = .int .i64 k ∧ ov = .slice A1 r1.length c1 ∧ Hid (Rep r1 (OutJ s l (bodies O) (P.take k))) ∧ Hid (St w0 wr2 (fun W => Lst A1 r1 W ∧ F3 W))) (fun _ iv _ => P.length - (intOf iv).toNat)
  case atStart =>
    refine ⟨0, _, 1, [(s, s)], Nat.zero_le _, rfl, rfl, Lib.hid ⟨by simp [Plain, PlainF]; omega, fun v => ?_⟩, HK3⟩
    rw [List.take_zero, outJ_zero (win_ex hO.out)]
    simp only [InS, or_false]
    omega
  case round =>
  clear HK3
  obtain ⟨k, A1, c1, r1, hk, rfl, rfl, HR1, HK1⟩ := hrel
  by_cases hlt : k < P.length
  · have hF := HF3.out _ HK1.out.now.2
    obtain ⟨qb, qo, at_, rfl, hx, _, hxc⟩ := hF.1.2.at_ hlt
    obtain ⟨ha0, ha1⟩ := HPB.out at_ (List.mem_of_getElem? hx)
    obtain ⟨a, rfl⟩ := Int.eq_ofNat_of_zero_le ha0
    have hal : a < O.length := by omega
    obtain ⟨gb, off, ba, bc, g, rfl, _, hg, hc, hl⟩ := (HB.out _ hF.2.2).at_ hal
    obtain ⟨A6, c6, _, hown6, hlook⟩ := hF.1.1.look (mt := 145) (et := 98) (n := (a : Int)) (by have := (HB.out _ hF.2.2).2; unfold I64; omega) Try.underlying145 (fun W => Try.zeroValue98 W)
    have HLOOK := Lib.hid hlook
    have HX := Lib.hid hx
    have HG := Lib.hid hg
    have HGO : Hid (g ≠ [] ∧ Plain g ∧ ∀ x, InS g x → 0 ≤ x ∧ x ≤ 1114111) := Lib.hid (hO.out g (List.mem_of_getElem? hg))
    have HGR : Hid (∀ x, Mem g x → 0 ≤ x ∧ x ≤ 1114111) := Lib.hid fun x hx => HGO.out.2.2 x ((HGO.out.2.1.mem x).1 hx)
    have haP : (a : Int) ∈ P := List.mem_of_getElem? hx
    have hone : OneAt l a ≠ [] := oneAt_ne (by rw [HPE.out]; exact haP)
    have ho4 : (OneAt l a).length ≤ 4 := Nat.le_trans (oneAt_len l a) hl4
    have HB1 : Hid (∀ p ∈ OneAt l a, bitsB p.2.1 p.2.2.1 p.2.2.2 = true) := Lib.hid fun p hp => HBI.out p (oneAt_sub hp).1
    have hpw : ∀ p ∈ OneAt l a, PartW p := fun p hp => (HP.out _ hF.2.2).it p (oneAt_sub hp).1
    have HKs := Lib.hid (HK1.out.add (Below.refl _ _) (G := fun W => PartsAt A6 (OneAt l a) W ∧ Lst ba g W) fun W hW => ⟨⟨(Sl.of_own hown6).below (B := 0) hW, hpw, by omega⟩, hl.below hW⟩)
    obtain ⟨r7, HR7⟩ : ∃ r, Hid (Rep r (TogS (OneAt l a) g)) := rep_all _ fun v hv => by have := togS_bd ho4 hv; omega
    have hnd : (P.take k ++ [(a : Int)]).Nodup := by
      rw [← take_snoc? hx]
      have h1 : P.Nodup := by rw [← HPE.out]; exact plV_nodup l
      exact h1.sublist (List.take_sublist _ _)
    have HND : Hid ((P.take k ++ [(a : Int)]).Nodup) := Lib.hid hnd
    have HNX : Hid (∀ v, OutJ s l (bodies O) (P.take (k + 1)) v ↔ SumS (Mem r1) (Mem r7) v) := Lib.hid fun v => by
      rw [take_snoc? HX.out, outJ_next HG.out HGR.out (fun a ha => (HPB.out a (List.mem_of_mem_take ha)).1) (fun h => by
        have := (List.nodup_append.1 HND.out).2.2 _ h _ (List.mem_singleton.2 rfl)
        exact this rfl)]
      unfold SumS
      constructor
      · rintro ⟨x, y, h1, h2, e⟩; exact ⟨x, y, (HR1.out.mem x).2 h1, (HR7.out.mem y).2 h2, e⟩
      · rintro ⟨x, y, h1, h2, e⟩; exact ⟨x, y, (HR1.out.mem x).1 h1, (HR7.out.mem y).1 h2, e⟩
    have HBD : Hid (∀ v, SumS (Mem r1) (Mem r7) v → -1073741824 ≤ v ∧ v ≤ 1073741824) := Lib.hid fun v hv => by
      have h1 := (HNX.out v).2 hv
      rw [take_snoc? HX.out] at h1
      have := outJ_bd HSS.out hl4 HND.out h1
      omega
    obtain ⟨r8, HR8⟩ : ∃ r, Hid (Rep r (SumS (Mem r1) (Mem r7))) := rep_all _ HBD.out
    have HR8' : Hid (Rep r8 (OutJ s l (bodies O) (P.take (k + 1)))) := Lib.hid (HR8.out.congr fun v => (HNX.out v).symm)
    have HP1 := Lib.hid HR1.out.1
    have HP7 := Lib.hid HR7.out.1
    have HPG := Lib.hid HGO.out.2.1
    have hmW := hF.1.1.mp.lt
    clear hF hx hg hl hown6 hlook haP hpw hnd ha0
    go_wp2_with fail
    have HKd := St.hdrewN HKs 1
    refine wp_region_Z 10 (by kernel_rfl) (fun W => W.cell? ⟨gb, off + a, none⟩ = some (.slice ba g.length bc) ∧ W.heap[w.heap.size + 1]? = wr.heap[w.heap.size + 1]?) ⟨hc, rfl⟩ (fun hHeld => ?_)
    refine wpAnyZ_take (i := 0) (v := ?_) rfl (by kernel_rfl) (by kernel_rfl) (by kernel_rfl) (by kernel_rfl) (fun _ _ _ h => h) (Or.inl ⟨by first | kernel_rfl | rfl, ?_⟩) (by assumption) ?_
    rotate_left
    · intro w hSw; (try dsimp only at hSw); go_simp; (try with_reducible rfl)
    (try simp only [Act.put, List.getElem_toArray, List.getElem_cons_succ, List.getElem_cons_zero, List.setIfInBounds_toArray, List.set_cons_zero, List.set_cons_succ])
    refine wpAnyZ_take (i := 1) (v := ?_) rfl (by kernel_rfl) (by kernel_rfl) (by kernel_rfl) (by kernel_rfl) (fun _ _ _ h => h) (Or.inl ⟨by first | kernel_rfl | rfl, ?_⟩) (by assumption) ?_
    rotate_left
    · intro w hSw; (try dsimp only at hSw); go_simp; (try with_reducible rfl)
    (try simp only [Act.put, List.getElem_toArray, List.getElem_cons_succ, List.getElem_cons_zero, List.setIfInBounds_toArray, List.set_cons_zero, List.set_cons_succ])
    refine wpAnyZ_take (i := 2) (v := ?_) rfl (by kernel_rfl) (by kernel_rfl) (by kernel_rfl) (by kernel_rfl) (fun _ _ _ h => h) (Or.inl ⟨by first | kernel_rfl | rfl, ?_⟩) (by assumption) ?_
    rotate_left
    · intro w hSw; (try dsimp only at hSw); go_simp; (try with_reducible rfl)
    (try simp only [Act.put, List.getElem_toArray, List.getElem_cons_succ, List.getElem_cons_zero, List.setIfInBounds_toArray, List.set_cons_zero, List.set_cons_succ])
    refine wpAnyZ_take (i := 3) (v := .slice A6 (OneAt l a).length c6) rfl (by kernel_rfl) (by kernel_rfl) (by kernel_rfl) (by kernel_rfl) (fun _ _ _ h => h) (yieldsIf_lookup (by first | kernel_rfl | rfl) rfl rfl rfl (fun W hS => HLOOK.out W hS.2)) (by assumption) ?_
    (try simp only [Act.put, List.getElem_toArray, List.getElem_cons_succ, List.getElem_cons_zero, List.setIfInBounds_toArray, List.set_cons_zero, List.set_cons_succ])
    refine wpAnyZ_take (i := 4) (v := ?_) rfl (by kernel_rfl) (by kernel_rfl) (by kernel_rfl) (by kernel_rfl) (fun _ _ _ h => h) (Or.inl ⟨by first | kernel_rfl | rfl, ?_⟩) (by assumption) ?_
    rotate_left
    · intro w hSw; (try dsimp only at hSw); go_simp; (try with_reducible rfl)
    (try simp only [Act.put, List.getElem_toArray, List.getElem_cons_succ, List.getElem_cons_zero, List.setIfInBounds_toArray, List.set_cons_zero, List.set_cons_succ])
    refine wpAnyZ_take (i := 5) (v := ?_) rfl (by kernel_rfl) (by kernel_rfl) (by kernel_rfl) (by kernel_rfl) (fun _ _ _ h => h) (Or.inl ⟨by first | kernel_rfl | rfl, ?_⟩) (by assumption) ?_
    rotate_left
    · intro w hSw; (try dsimp only at hSw); go_simp; (try with_reducible rfl)
    (try simp only [Act.put, List.getElem_toArray, List.getElem_cons_succ, List.getElem_cons_zero, List.setIfInBounds_toArray, List.set_cons_zero, List.set_cons_succ])
    refine wpAnyZ_take (i := 6) (v := ?_) rfl (by kernel_rfl) (by kernel_rfl) (by kernel_rfl) (by kernel_rfl) (fun _ _ _ h => h) (Or.inl ⟨by first | kernel_rfl | rfl, ?_⟩) (by assumption) ?_
    rotate_left
    · intro w hSw; (try dsimp only at hSw); go_simp; (try with_reducible rfl)
    (try simp only [Act.put, List.getElem_toArray, List.getElem_cons_succ, List.getElem_cons_zero, List.setIfInBounds_toArray, List.set_cons_zero, List.set_cons_succ])
    refine wpAnyZ_take (i := 7) (v := ?_) rfl (by kernel_rfl) (by kernel_rfl) (by kernel_rfl) (by kernel_rfl) (fun _ _ _ h => h) (Or.inl ⟨by first | kernel_rfl | rfl, ?_⟩) (by assumption) ?_
    rotate_left
    · intro w hSw; (try dsimp only at hSw); go_simp; (try with_reducible rfl)
    (try simp only [Act.put, List.getElem_toArray, List.getElem_cons_succ, List.getElem_cons_zero, List.setIfInBounds_toArray, List.set_cons_zero, List.set_cons_succ])
    refine wpAnyZ_ready (i := 8) (by kernel_rfl) rfl (fun K hK => ?_)
    go_simp
    refine (together_st (St.here HKd) (fun _ h => h.1.1) (fun _ h => h.1.2) c6 bc HB1 hone ho4 HPG HGR HR7).mono ?_
    rintro e w7 ⟨A7, c7, rfl, HK7⟩
    have hb7 : Below wr.heap.size wr w7 := below_to (below_drewN (Below.refl _ _) 1) HK7.out.2
    refine hK.out _ _ (⟨(hb7.cell (lt_of_cell hc)).trans hc, hb7.block _ hmW⟩) (fun hHeld => ?_)
    clear hK K
    (try simp only [Act.put, List.getElem_toArray, List.getElem_cons_succ, List.getElem_cons_zero, List.setIfInBounds_toArray, List.set_cons_zero, List.set_cons_succ])
    refine wpAnyZ_ready (i := 9) (by kernel_rfl) rfl (fun K hK => ?_)
    go_simp
    refine (plus_st HK7 (fun _ h => h.2.2.1) (fun _ h => h.1) c1 c7 HP1 HP7 HBD HR8).mono ?_
    rintro e w8 ⟨A8, c8, rfl, HK8⟩
    have hb8 : Below wr.heap.size wr w8 := below_to (below_drewN (Below.refl _ _) 1) HK8.out.2
    have HKN := Lib.hid (HK1.out.step hb8)
    have HKN : Hid (St w0 w8 (fun W => Lst A8 r8 W ∧ F3 W)) := Lib.hid ⟨fun W hW => ⟨(HK8.out.1 W hW).1, (HK8.out.1 W hW).2.2.2.2⟩, HKN.out.2⟩
    refine hK.out _ _ (⟨(hb8.cell (lt_of_cell hc)).trans hc, hb8.block _ hmW⟩) (fun hHeld => ?_)
    clear hK K
    (try simp only [Act.put, List.getElem_toArray, List.getElem_cons_succ, List.getElem_cons_zero, List.setIfInBounds_toArray, List.set_cons_zero, List.set_cons_succ])
    refine wpAnyZ_last (i := 10) rfl (by kernel_rfl) (by kernel_rfl) rfl (fun K hK => ?_)
    go_simp
    refine hK.out _ _ ?_
    clear hHeld hK K hb7 hb8 hc hmW
    (try simp only [Act.put, List.getElem_toArray, List.getElem_cons_succ, List.getElem_cons_zero, List.setIfInBounds_toArray, List.set_cons_zero, List.set_cons_succ])
    go_wp2_with fail
    go_roundw
    case rel => exact ⟨k + 1, A8, c8, r8, by omega, by go_num, rfl, HR8', HKN⟩
    case measure => simp [intOf]; omega
  · obtain rfl : k = P.length := by omega
    have hd : decide (P.length < P.length) = false := by simp
    have HRI : Hid (Rep r1 (InnS ⟨b, d, t, u, s, l⟩ (bodies O))) := Lib.hid (by
      have h := HR1.out
      rw [List.take_length, ← HPE.out] at h
      exact h.congr fun v => outJ_all ⟨b, d, t, u, s, l⟩ (bodies O) v)
    obtain rfl := Rep.unique HRI.out hr.out (fun _ => Iff.rfl)
    have hne : r1 ≠ [] := fun e => by
      obtain ⟨w', hw'⟩ := win_ex hO.out
      have := (HRI.out.2 (innerT ⟨b, d, t, u, s, l⟩ w')).2 ⟨w', hw', rfl⟩
      rw [e] at this; exact this
    have hpos : decide (0 < r1.length) = true := by simpa using List.length_pos_iff.2 hne
    obtain ⟨x0, hx0⟩ : ∃ x, nthS r1 0 = some x := by
      rcases e : r1 with _ | ⟨p, r2⟩
      · exact absurd e hne
      · have hp := HRI.out.1; rw [e] at hp; exact ⟨_, nthS_first hp⟩
    obtain ⟨x1, hx1⟩ : ∃ x, nthS r1 (cnt r1 - 1) = some x := by
      rcases last_cases r1 with e | ⟨m, q, e⟩
      · exact absurd e hne
      · have hp := HRI.out.1; rw [e] at hp ⊢; exact ⟨_, nthS_last hp⟩
    have HIF := Lib.hid (inRange_iff HRI.out hx0 hx1)
    have HX0 : Hid (optD (nthS r1 0) = x0 ∧ optB (nthS r1 0) = true) := Lib.hid (by rw [hx0]; exact ⟨rfl, rfl⟩)
    have HX1 : Hid (optD (nthS r1 (cnt r1 - 1)) = x1 ∧ optB (nthS r1 (cnt r1 - 1)) = true) := Lib.hid (by rw [hx1]; exact ⟨rfl, rfl⟩)
    have HSF : Hid (Rep r1 (Mem r1)) := Lib.hid (Rep.self HRI.out.1)
    clear hlt hne hx0 hx1
    go_wp2_with fail
    refine (First_st HK1 (fun _ h => h.1) _ HSF HX0.out.1 HX0.out.2).mono ?_
    rintro e w4 ⟨rfl, HK4⟩
    go_wp2_with fail
    refine (Last_st HK4 (fun _ h => h.1) _ HSF HX1.out.1 HX1.out.2).mono ?_
    rintro e w5 ⟨rfl, HK5⟩
    have HFIN := Lib.hid (HK5.out.weaken (G := fun W => Lst A1 r1 W ∧ F W) fun W h => ⟨h.1, (HF3.out W h.2).2.2⟩)
    by_cases g0 : 0 ≤ x0
    case neg =>
      obtain rfl := pB_f hok (fun h => g0 (HIF.out.1 h).1)
      go_wp2_with fail
      go_ret2
      exact ⟨_, _, rfl, HFIN⟩
    by_cases g1 : x1 ≤ 1114111
    · obtain rfl := pB_t hok (HIF.out.2 ⟨g0, g1⟩)
      go_wp2_with fail
      go_ret2
      exact ⟨_, _, rfl, HFIN⟩
    · obtain rfl := pB_f hok (fun h => g1 (HIF.out.1 h).2)
      have g2 : decide (x1 ≤ 1114111) = false := by simpa using g1
      go_wp2_with fail
      go_ret2
      exact ⟨_, _, rfl, HFIN⟩
end
end Go.Proofs.Ytlmkokeapbleoaa
end
section
namespace Go.Proofs.Ytlmkokeapbleoaa
open Go.RowKit
section
variable {w0 w : World} {F : World → Prop}
theorem symbols_st (hK : Hid (St w0 w F)) : Calls Try.prog 83 #[] w (RetL w0 [(0, 1114111)] F) := by
  go_enter Try.func83, Try.ntmps83
  go_wp2_with fail
  go_ret
  exact ⟨_, 1, rfl, St.lit hK (0, 1114111) (by intro p hp; simp at hp; subst hp; simp)⟩
def SymNe (gs : List (List Sp)) (k : Nat) : Prop := ∀ g ∈ gs.take k, symL g ≠ []
theorem symNe_next {gs : List (List Sp)} {k : Nat} {g : List Sp} (h : gs[k]? = some g) : SymNe gs (k + 1) ↔ (SymNe gs k ∧ symL g ≠ []) := by
  unfold SymNe
  rw [take_snoc? h]
  constructor
  · intro q; exact ⟨fun x hx => q x (List.mem_append.2 (.inl hx)), q g (by simp)⟩
  · rintro ⟨q1, q2⟩ x hx
    rcases List.mem_append.1 hx with hx | hx
    · exact q1 x hx
    · simp at hx; subst hx; exact q2
theorem inner_st (hK : Hid (St w0 w F)) {A : Option Addr} {l : List PartL} (hp : ∀ W, F W → PartsAt A l W) (b d t u s : Int) (c : Nat) {B : Option Addr} {O : List (Item Sp)} (hb : ∀ W, F W → LLx B O W) (cb : Nat)
    (h4 : O.length ≤ 4) (hn : Hid (NumsOk ⟨b, d, t, u, s, l⟩)) (hpo : Hid (∀ p ∈ l, PartOk O.length p)) (r : List Sp) (hr : Hid (Rep r (InnS ⟨b, d, t, u, s, l⟩ (bodies O)))) (ok : Bool) (hok : Hid (pB (InRange ⟨b, d, t, u, s, l⟩ (bodies O)) = ok)) (hst : StageP l) :
    Calls Try.prog 70 #[.agg #[.int .i64 b, .int .i64 d, .int .i64 t, .int .i64 u, .int .i64 s, .slice A l.length c], .slice B O.length cb] w (RetLB2 w0 r ok F) := by
  have HP := Lib.hid hp
  have HB := Lib.hid hb
  have hl4 : l.length ≤ 4 := hn.out.2.2.2.2
  have h4' : (O.length : Int) ≤ 4 := by omega
  have HK := St.box hK [.int .i64 b, .int .i64 d, .int .i64 t, .int .i64 u, .int .i64 s, .slice A l.length c] 100
  have HN := Lib.hid (pB_true hn.out)
  obtain ⟨q0, q1, q2, q3, q4, q5⟩ := HK.out.now.1.c6
  have hmk : ∀ w : World, (Instr.makeSlice 37 (.int .i64 (O.length : Int)) (.int .i64 (O.length : Int))).run Try.prog w = .ok (.slice (some ⟨w.heap.size, 0, none⟩) O.length O.length) (w.alloc (.cells (madeCells #[.slice none 0 0] O.length) 36)) := fun w => run_make_row' 37 36 (.slice none 0 0) 24 Try.underlying37 infoHdy rfl .i64 .i64 O.length (by omega) (by omega) w
  clear hp hb
  go_enter Try.func70, Try.ntmps70
  go_wp2_with fail
  refine (numbers_st HK (fun _ h => HP.out _ h.2) b d t u s c true HN).mono ?_
  rintro e w3 ⟨rfl, HK3⟩
  clear q0 q1 q2 q3 q4 q5 HK
  go_wp2_with fail
  clear hmk
  go_loopw [6, 25] (fun sv iv wr => ∃ (k : Nat) (sb : Bool) (Q : List (Item Sp)), k ≤ O.length ∧ iv = .int .i64 k ∧ sv = .bool sb ∧ Q.length = O.length ∧ Hid (pB (SymNe (bodies O) k) = sb) ∧ Hid (bodies Q = ((bodies O).map symL).take k ++ List.replicate (O.length - k) []) ∧ Hid (RwB w3.heap.size w3.heap.size Q wr) ∧ Hid (Below w3.heap.size w3 wr)) (fun _ iv _ => O.length - (intOf iv).toNat)
  case atStart =>
    refine ⟨0, true, List.replicate O.length (none, 0, []), Nat.zero_le _, rfl, rfl, by simp, Lib.hid (pB_true fun g hg => by simp at hg), Lib.hid (by simp [bodies]), Lib.hid ?_, Lib.hid ?_⟩
    · exact RwB.start w3 O.length
    · exact (Below.refl _ _).alloc (Nat.le_refl _) _
  case round =>
  obtain ⟨k, sb, Q, hk, rfl, rfl, hQl, HS, HQ, HRW, HBL⟩ := hrel
  have HKr : Hid (St w0 wr (fun W => BoxC w.heap.size [.int .i64 b, .int .i64 d, .int .i64 t, .int .i64 u, .int .i64 s, .slice A l.length c] W ∧ F W)) := Lib.hid (HK3.out.step HBL.out)
  by_cases hlt : k < O.length
  · obtain ⟨gb, off, ga, gc, g, rfl, _, hg, hc, hl⟩ := (HB.out _ HKr.out.now.2).at_ hlt
    have HG := Lib.hid hg
    have HKi := Lib.hid (HKr.out.add (Below.refl _ _) (G := Lst ga g) (fun W hW => hl.below hW))
    have hsz : w3.heap.size ≤ wr.heap.size := by have := HBL.out.size; omega
    have HRS : Hid (Rep (symL g) (fun x => Mem g x ∧ Mem [(0, 1114111)] x)) := Lib.hid (symL_rep g)
    obtain ⟨sl, hsl⟩ : ∃ z, symL g = z := ⟨_, rfl⟩
    rw [hsl] at HRS
    have HSL := Lib.hid hsl
    have HNX := Lib.hid (symNe_next hg)
    have hnew : (bodies (Q.set k (none, 0, sl))) = ((bodies O).map symL).take (k + 1) ++ List.replicate (O.length - (k + 1)) [] := by
      have hG2 : ((bodies O).map symL)[k]? = some sl := by rw [List.getElem?_map, hg, ← hsl]; rfl
      have e := fill_set hG2
      rw [List.length_map, bodies_length, ← HQ.out] at e
      rw [← e]; unfold bodies; rw [List.map_set]
    have HNEW := Lib.hid hnew
    have hkq : k < Q.length := by omega
    clear hg hl hsl hnew
    go_wp2_with fail
    refine (symbols_st (St.here HKi)).mono ?_
    rintro e w4 ⟨A4, c4, rfl, HK4⟩
    go_wp2_with fail
    refine (Meet_stD HK4 (fun _ h => h.2.1) (fun _ h => h.1) gc c4 HRS).mono ?_
    rintro e w5 ⟨A5, c5, rfl, HD5, HK5, HB5⟩
    have HD6 := Lib.hid (HD5.out.mono (P' := fun k => wr.heap.size ≤ k) fun k hp _ => Nat.le_trans HK4.out.2.size hp)
    have HRN := Lib.hid (HRW.out.set (by omega) HK5.out.2 (i := k) (c := c5) HD6.out)
    obtain ⟨vc, hvc, hvf⟩ := (HRW.out.below HK5.out.2).cell hkq
    have hcs : (w5.setCell ⟨w3.heap.size, k, none⟩ (.slice A5 sl.length c5)).cell? ⟨w3.heap.size, k, none⟩ = some (.slice A5 sl.length c5) := World.cell?_setCell_same _ _ _ hvc
    have HBN : Hid (Below w3.heap.size w3 (w5.setCell ⟨w3.heap.size, k, none⟩ (.slice A5 sl.length c5))) := Lib.hid ((HBL.out.trans (HK5.out.2.mono hsz)).setCell (Nat.le_refl _) _)
    have HQN : Hid (bodies (Q.set k (A5, c5, sl)) = ((bodies O).map symL).take (k + 1) ++ List.replicate (O.length - (k + 1)) []) := Lib.hid (by
      rw [← HNEW.out]; unfold bodies; rw [List.map_set, List.map_set])
    have hQl2 : (Q.set k (A5, c5, sl)).length = O.length := by rw [List.length_set]; exact hQl
    have HQl2 := Lib.hid hQl2
    have HLT := Lib.hid hlt
    have hkO : (k : Int) < (O.length : Int) := by omega
    clear hQl2 hsz hkq hlt hc hQl
    rcases sb with _ | _
    · have HSN : Hid (pB (SymNe (bodies O) (k + 1)) = false) := Lib.hid (pB_false fun h => by
        have h2 := pB_true (HNX.out.1 h).1
        rw [HS.out] at h2; cases h2)
      go_wp2_with fail
      go_roundw
      case rel => exact ⟨k + 1, false, Q.set k (A5, c5, sl), by have := HLT.out; omega, by go_num, rfl, HQl2.out, HSN, HQN, HRN, HBN⟩
      case measure => have := HLT.out; simp [intOf]; omega
    by_cases hn : sl = []
    · subst hn
      have HSN : Hid (pB (SymNe (bodies O) (k + 1)) = false) := Lib.hid (pB_false fun h => (HNX.out.1 h).2 HSL.out)
      go_wp2_with fail
      go_roundw
      case rel => exact ⟨k + 1, false, Q.set k (A5, c5, []), by have := HLT.out; omega, by go_num, rfl, HQl2.out, HSN, HQN, HRN, HBN⟩
      case measure => have := HLT.out; simp [intOf]; omega
    · have hpos : decide (0 < sl.length) = true := by simpa using List.length_pos_iff.2 hn
      have HSN : Hid (pB (SymNe (bodies O) (k + 1)) = true) := Lib.hid (pB_true (HNX.out.2 ⟨pB_iff.1 HS.out, by rw [HSL.out]; exact hn⟩))
      clear hn
      go_wp2_with fail
      go_roundw
      case rel => exact ⟨k + 1, true, Q.set k (A5, c5, sl), by have := HLT.out; omega, by go_num, rfl, HQl2.out, HSN, HQN, HRN, HBN⟩
      case measure => have := HLT.out; simp [intOf]; omega
  · obtain rfl : k = O.length := by omega
    have hd : decide (O.length < O.length) = false := by simp
    have HBQ : Hid (bodies Q = (bodies O).map symL) := Lib.hid (by
      rw [HQ.out, Nat.sub_self, List.replicate_zero, List.append_nil, List.take_of_length_le (by rw [List.length_map, bodies_length]; exact Nat.le_refl _)])
    have HKs := Lib.hid (HKr.out.add (Below.refl _ _) (G := LLx (some ⟨w3.heap.size, 0, none⟩) Q) (fun W hW => (HRW.out.row (Nat.le_refl _) (by omega)).mono (P' := fun _ => True) (fun _ _ _ => trivial) W (fun k _ hk => hW.block k hk)))
    have HSA : Hid (pB (∀ g ∈ bodies O, symL g ≠ []) = sb) := Lib.hid (by
      rw [← HS.out]; unfold SymNe; rw [List.take_of_length_le (by rw [bodies_length]; exact Nat.le_refl _)])
    have hc5 := HKs.out.now.2.1 5 _ rfl
    rw [← hQl]
    have HQl := Lib.hid hQl
    clear hQl HS HQ
    go_wp2_with fail
    clear hc5
    go_loopw [49] (fun iv wr2 => ∃ k : Nat, k ≤ l.length ∧ iv = .int .i64 k ∧ Hid (St w0 wr2 (fun W => LLx (some ⟨w3.heap.size, 0, none⟩) Q W ∧ BoxC w.heap.size [.int .i64 b, .int .i64 d, .int .i64 t, .int .i64 u, .int .i64 s, .slice A l.length c] W ∧ F W))) (fun iv _ => l.length - (intOf iv).toNat)
    case atStart => exact ⟨0, Nat.zero_le _, rfl, HKs⟩
    case round =>
    clear HKs HKr HRW HBL
    obtain ⟨k, hk, rfl, HKs⟩ := hrel
    by_cases hlt : k < l.length
    · obtain ⟨pb, off, p, rfl, hx, hw, hd0, hd1, hd2, hd3⟩ := (HP.out _ HKs.out.now.2.2).at_ hlt
      have H2 := Lib.hid (pB_true (hpo.out p (List.mem_of_getElem? hx)))
      have HKp := St.box HKs [.int .i64 p.1, .int .i64 p.2.1, .int .i64 p.2.2.1, .int .i64 p.2.2.2] 125
      obtain ⟨x1, x2, x3, x4⟩ := p
      simp only at hd0 hd1 hd2 hd3 HKp
      clear hx hw
      rw [HQl.out]
      go_wp2_with fail
      refine (PRight_st HKp x1 x2 x3 x4 O.length true H2).mono ?_
      rintro e w6 ⟨rfl, HK6⟩
      go_wp2_with fail
      go_roundw
      case rel => exact ⟨k + 1, by omega, by go_num, Lib.hid (HK6.out.weaken fun _ h => h.2)⟩
      case measure => simp [intOf]; omega
    · obtain rfl : k = l.length := by omega
      have hd : decide (l.length < l.length) = false := by simp
      rcases sb with _ | _
      · have hno : ∀ w, ¬ WinG (bodies O) w := fun w hw => by
          have h1 : ¬ ∀ g ∈ bodies O, symL g ≠ [] := fun h => by have := pB_true h; rw [HSA.out] at this; cases this
          apply h1
          intro g hg h2
          exact win_none hg h2 w hw
        obtain rfl := pB_t hok (fun v ⟨w, hw, _⟩ => absurd hw (hno w))
        obtain rfl := Rep.unique hr.out (show Rep [] (InnS ⟨b, d, t, u, s, l⟩ (bodies O)) from ⟨by simp [Plain, PlainF], fun v => by
          simp only [InS, false_iff]
          rintro ⟨w, hw, _⟩
          exact hno w hw⟩) (fun _ => Iff.rfl)
        go_wp2_with fail
        go_ret2
        exact ⟨none, 0, rfl, Lib.hid (HKs.out.weaken fun W h => ⟨lst_nil W, h.2.2⟩)⟩
      · have HO : Hid (∀ g ∈ bodies Q, g ≠ [] ∧ Plain g ∧ ∀ x, InS g x → 0 ≤ x ∧ x ≤ 1114111) := Lib.hid fun g hg => by
          rw [HBQ.out] at hg
          obtain ⟨g', hg', rfl⟩ := List.mem_map.1 hg
          refine ⟨pB_iff.1 HSA.out g' hg', (symL_rep g').1, fun x hx => ?_⟩
          exact ((symL_mem g' x).1 (((symL_rep g').1.mem x).2 hx)).2
        have HPQ : Hid (∀ p ∈ l, PartOk Q.length p) := Lib.hid (by rw [HQl.out]; exact hpo.out)
        have HR2 : Hid (Rep r (InnS ⟨b, d, t, u, s, l⟩ (bodies Q))) := Lib.hid (by rw [HBQ.out]; exact hr.out.congr fun v => (innS_sym _ _ v).symm)
        have HOK2 : Hid (pB (InRange ⟨b, d, t, u, s, l⟩ (bodies Q)) = ok) := Lib.hid (by
          rw [← hok.out, HBQ.out]
          exact pB_congr ⟨fun h v hv => h v ((innS_sym _ _ v).2 hv), fun h v hv => h v ((innS_sym _ _ v).1 hv)⟩)
        obtain ⟨q0, q1, q2, q3, q4, q5⟩ := HKs.out.now.2.1.c6
        go_wp2_with fail
        refine (values_st HKs (fun _ h => HP.out _ h.2.2) b d t u s c (fun _ h => h.1) Q.length hn HPQ HO r HR2 ok HOK2 hst).mono ?_
        rintro e w7 ⟨A7, c7, rfl, HK7⟩
        go_wp2_with fail
        go_ret2
        exact ⟨A7, c7, rfl, Lib.hid (HK7.out.weaken fun W h => ⟨h.1, h.2.2.2⟩)⟩
end
end Go.Proofs.Ytlmkokeapbleoaa
end
section
namespace Go.Proofs.Ytlmkokeapbleoaa
open Go.RowKit
theorem outS_iff {t : TermL} (hn : NumsOk t) {gs : List (List Sp)} {r r3 : List Sp} (hr : Rep r (InnS t gs)) (hok : InRange t gs) (h3 : Rep r3 (ImgS t.drop t.take t.up r)) (y : Int) :
    OutS t gs y ↔ (-1073741824 ≤ y ∧ y ≤ 1073741824 ∧ Mem r3 (y - t.base)) := by
  rw [h3.mem]
  constructor
  · intro h
    have hb := outS_bd hn h
    obtain ⟨w, hw, rfl⟩ := h
    refine ⟨hb.1, hb.2, bitsOk_b hn.2.2.1, innerT t w, (hr.mem _).2 ⟨w, hw, rfl⟩, ?_⟩
    have := hok _ ⟨w, hw, rfl⟩
    exact ⟨by omega, by omega, by omega⟩
  · rintro ⟨_, _, _, x, hx, _, _, hv⟩
    obtain ⟨w, hw, rfl⟩ := (hr.mem x).1 hx
    exact ⟨w, hw, by omega⟩
section
variable {w0 w : World} {F : World → Prop}
theorem tImage_st (hK : Hid (St w0 w F)) {A : Option Addr} {l : List PartL} (hp : ∀ W, F W → PartsAt A l W) (b d t u s : Int) (c : Nat) {B : Option Addr} {O : List (Item Sp)} (hb : ∀ W, F W → LLx B O W) (cb : Nat)
    (h4 : O.length ≤ 4) (hn : Hid (NumsOk ⟨b, d, t, u, s, l⟩)) (hpo : Hid (∀ p ∈ l, PartOk O.length p)) (r2 : List Sp) (hr2 : Hid (Rep r2 (OutS ⟨b, d, t, u, s, l⟩ (bodies O)))) (ok : Bool) (hok : Hid (pB (InRange ⟨b, d, t, u, s, l⟩ (bodies O)) = ok)) (hst : StageP l) :
    Calls Try.prog 53 #[.agg #[.int .i64 b, .int .i64 d, .int .i64 t, .int .i64 u, .int .i64 s, .slice A l.length c], .slice B O.length cb] w (fun e w' => if ok = true then RetLB2 w0 r2 true F e w' else RetLB2 w0 [] false F e w') := by
  have HP := Lib.hid hp
  have HB := Lib.hid hb
  have HK := St.box hK [.int .i64 b, .int .i64 d, .int .i64 t, .int .i64 u, .int .i64 s, .slice A l.length c] 100
  obtain ⟨q0, q1, q2, q3, q4, q5⟩ := HK.out.now.1.c6
  obtain ⟨r, hr⟩ := rep_inn hn.out (bodies O)
  clear hp hb
  go_enter Try.func53, Try.ntmps53
  go_wp2_with fail
  refine (inner_st HK (fun _ h => HP.out _ h.2) b d t u s c (fun _ h => HB.out _ h.2) cb h4 hn hpo r hr ok hok hst).mono ?_
  rintro e w1 ⟨A1, c1, rfl, HK1⟩
  clear q0 q1 q2 q3 q4 q5 HK
  rcases ok with _ | _
  · go_wp2_with fail
    go_ret2
    exact ⟨none, 0, rfl, Lib.hid (HK1.out.weaken fun W h => ⟨lst_nil W, h.2.2⟩)⟩
  have HRG : Hid (InRange ⟨b, d, t, u, s, l⟩ (bodies O)) := Lib.hid (pB_iff.1 hok.out)
  by_cases hre : r = []
  · subst hre
    have h0 : Rep [] (OutS ⟨b, d, t, u, s, l⟩ (bodies O)) := ⟨by simp [Plain, PlainF], fun y => by
      simp only [InS, false_iff]
      rintro ⟨w, hw, _⟩
      exact rep_nil hr.out _ ⟨w, hw, rfl⟩⟩
    obtain rfl := Rep.unique hr2.out h0 (fun _ => Iff.rfl)
    go_wp2_with fail
    go_ret2
    exact ⟨none, 0, rfl, Lib.hid (HK1.out.weaken fun W h => ⟨lst_nil W, h.2.2⟩)⟩
  have hrl : ((r.length : Int) == 0) = false := by
    rw [beq_eq_false_iff_ne]
    intro h
    exact hre (List.eq_nil_of_length_eq_zero (by omega))
  obtain ⟨r3, HR3⟩ := rep_img d t u r
  have HR4 : Hid (Rep r2 (fun y => -1073741824 ≤ y ∧ y ≤ 1073741824 ∧ Mem r3 (y - b))) := Lib.hid (hr2.out.congr fun y => outS_iff hn.out hr.out HRG.out HR3.out y)
  clear hre
  go_wp2_with fail
  have HK2 := St.hdrewN HK1 1
  go_region_held3 (fun W => W.cell? ⟨w.heap.size, 0, none⟩ = some (.int .i64 b) ∧ W.cell? ⟨w.heap.size, 1, none⟩ = some (.int .i64 d) ∧ W.cell? ⟨w.heap.size, 2, none⟩ = some (.int .i64 t) ∧ W.cell? ⟨w.heap.size, 3, none⟩ = some (.int .i64 u) ∧ W.cell? ⟨w.heap.size, 4, none⟩ = some (.int .i64 s) ∧ W.cell? ⟨w.heap.size, 5, none⟩ = some (.slice A l.length c))
    (first | exact HK5.out.now.2.2.2.1.c6 | exact HK4.out.now.2.2.1.c6 | exact HK3.out.now.2.1.c6 | exact HK2.out.now.2.1.c6 | go_keep)
    ((first
      | (go_at_call 73; refine (retV_gives HK2 (outer_any b d t u s A l.length c _)).mono ?_; rintro e3 w3 ⟨rfl, HK3⟩)
      | (go_at_call 72; refine (Image_st HK3 (fun _ h => h.1) c1 0 d t u HR3).mono ?_; rintro e4 w4 ⟨A4, c4, rfl, HK4⟩)
      | (go_at_call 71; refine (Move_st HK4 (fun _ h => h.1) c4 HR4).mono ?_; rintro e5 w5 ⟨A5, c5, rfl, HK5⟩)))
  go_wp2_with fail
  go_ret2
  exact ⟨A5, c5, rfl, Lib.hid (HK5.out.weaken fun W h => ⟨h.1, h.2.2.2.2⟩)⟩
theorem Fits_st (hK : Hid (St w0 w F)) {A : Option Addr} {l : List PartL} (hp : ∀ W, F W → PartsAt A l W) (b d t u s : Int) (c : Nat) (i o : Int) {B : Option Addr} {O : List (Item Sp)} (hb : ∀ W, F W → LLx B O W) (cb : Nat)
    (h4 : O.length ≤ 4) (v : Bool) (hv : Hid (pB (FitsP i o (bodies O) ⟨b, d, t, u, s, l⟩) = v)) (hst : StageP l) :
    Calls Try.prog 47 #[.agg #[.int .i64 b, .int .i64 d, .int .i64 t, .int .i64 u, .int .i64 s, .slice A l.length c], .int .i64 i, .int .i64 o, .slice B O.length cb] w (RetV w0 (.bool v) F) := by
  have HP := Lib.hid hp
  have HB := Lib.hid hb
  have HK := St.box hK [.int .i64 b, .int .i64 d, .int .i64 t, .int .i64 u, .int .i64 s, .slice A l.length c] 100
  obtain ⟨q0, q1, q2, q3, q4, q5⟩ := HK.out.now.1.c6
  have hbl : (bodies O).length = O.length := bodies_length O
  clear hp hb
  by_cases a1 : TermRt i o O.length ⟨b, d, t, u, s, l⟩
  case neg =>
    obtain rfl := pB_f hv (fun h => a1 (by have := h.1; rwa [hbl] at this))
    have H1 := Lib.hid (pB_false a1)
    clear a1 hbl
    go_enter Try.func47, Try.ntmps47
    go_wp2_with fail
    refine (tRightG_st HK (fun _ h => HP.out _ h.2) b d t u s c i o O.length false H1).mono ?_
    rintro e w1 ⟨rfl, HK1⟩
    go_wp2_with fail
    go_ret
    exact ⟨rfl, Lib.hid (HK1.out.weaken fun _ h => h.2)⟩
  have H1 := Lib.hid (pB_true a1)
  have HN : Hid (NumsOk ⟨b, d, t, u, s, l⟩) := Lib.hid a1.2.2.1
  have HPO : Hid (∀ p ∈ l, PartOk O.length p) := Lib.hid fun p hp => (a1.2.2.2.1 p hp).1
  have HF : Hid (pB (InRange ⟨b, d, t, u, s, l⟩ (bodies O) ∧ ∀ y, OutS ⟨b, d, t, u, s, l⟩ (bodies O) y → InD o y) = v) := by
    unfold Hid
    rw [← hv.out]
    exact (pB_congr (fits_iff (by rw [hbl]; exact a1))).symm
  obtain ⟨ok, hok⟩ : ∃ ok, Hid (pB (InRange ⟨b, d, t, u, s, l⟩ (bodies O)) = ok) := ⟨_, rfl⟩
  obtain ⟨r2, hr2⟩ : ∃ r, Hid (Rep r (OutS ⟨b, d, t, u, s, l⟩ (bodies O))) := rep_all _ fun y h => outS_bd HN.out h
  clear a1 hbl
  go_enter Try.func47, Try.ntmps47
  go_wp2_with fail
  refine (tRightG_st HK (fun _ h => HP.out _ h.2) b d t u s c i o O.length true H1).mono ?_
  rintro e w1 ⟨rfl, HK1⟩
  clear q0 q1 q2 q3 q4 q5
  obtain ⟨q0, q1, q2, q3, q4, q5⟩ := HK1.out.now.1.c6
  go_wp2_with fail
  refine (tImage_st HK1 (fun _ h => HP.out _ h.2) b d t u s c (fun _ h => HB.out _ h.2) cb h4 HN HPO r2 hr2 ok hok hst).mono ?_
  intro e w2 hret
  rcases ok with _ | _
  · obtain rfl := pB_f HF (fun h => by have := pB_true h.1; rw [hok.out] at this; cases this)
    obtain ⟨A2, c2, rfl, HK2⟩ := hret
    go_wp2_with fail
    go_ret
    exact ⟨rfl, Lib.hid (HK2.out.weaken fun W h => h.2.2)⟩
  · obtain ⟨A2, c2, rfl, HK2⟩ := hret
    have HW : Hid (pB (∀ x, Mem r2 x → Mem (domL o) x) = v) := by
      unfold Hid
      rw [← HF.out]
      refine pB_congr ⟨fun h => ⟨pB_iff.1 hok.out, fun y hy => (inD_mem o y).1 (h y ((hr2.out.mem y).2 hy))⟩, fun h x hx => (inD_mem o x).2 (h.2 x ((hr2.out.mem x).1 hx))⟩
    go_wp2_with fail
    refine (DomX_st HK2 o).mono ?_
    rintro e w3 ⟨A3, c3, rfl, HK3⟩
    go_wp2_with fail
    refine (Within_p HK3 (fun _ h => h.2.1) (fun _ h => h.1) c2 c3 v HW).mono ?_
    rintro e w4 ⟨rfl, HK4⟩
    go_wp2_with fail
    go_ret
    exact ⟨rfl, Lib.hid (HK4.out.weaken fun W h => h.2.2.2)⟩
end
end Go.Proofs.Ytlmkokeapbleoaa
end
section
namespace Go.Proofs.Ytlmkokeapbleoaa
open Go.RowKit
section
variable {w0 w : World} {F : World → Prop}
theorem state_st (hK : Hid (St w0 w F)) (i o n s : Int) (ra fa : Option Addr) (rl rc fl fc : Nat) (x : Int) (v : Bool) (hv : Hid (pB (StateOk n x) = v)) :
    Calls Try.prog 32 #[.agg #[.int .i64 i, .int .i64 o, .int .i64 n, .int .i64 s, .slice ra rl rc, .slice fa fl fc], .int .i64 x] w (RetV w0 (.bool v) F) := by
  have HK := St.box hK [.int .i64 i, .int .i64 o, .int .i64 n, .int .i64 s, .slice ra rl rc, .slice fa fl fc] 26
  by_cases h1 : 0 ≤ x
  case neg =>
    obtain rfl := pB_f hv (fun h => h1 h.1)
    go_enter Try.func32, Try.ntmps32
    go_wp2_with fail
    go_ret
    exact ⟨rfl, Lib.hid (HK.out.weaken fun _ h => h.2)⟩
  by_cases h2 : x < n
  case neg =>
    obtain rfl := pB_f hv (fun h => h2 h.2)
    go_enter Try.func32, Try.ntmps32
    go_wp2_with fail
    go_ret
    exact ⟨rfl, Lib.hid (HK.out.weaken fun _ h => h.2)⟩
  obtain rfl := pB_t hv ⟨h1, h2⟩
  go_enter Try.func32, Try.ntmps32
  go_wp2_with fail
  go_ret
  exact ⟨rfl, Lib.hid (HK.out.weaken fun _ h => h.2)⟩
theorem dom_pos {s : Int} (h : SortOk s) : decide (0 < (domL s).length) = true := by
  rcases h with rfl | rfl <;> rfl
theorem dom_zero {s : Int} (h : ¬ SortOk s) : decide (0 < (domL s).length) = false := by
  rw [(domL_nil s).2 h]; rfl
def HeadP (i o n s : Int) (rl fl : Nat) : Prop := SortOk i ∧ SortOk o ∧ 1 ≤ n ∧ n ≤ 1024 ∧ StateOk n s ∧ rl ≤ 4096 ∧ fl ≤ 4096
theorem head_st (hK : Hid (St w0 w F)) (i o n s : Int) (ra fa : Option Addr) (rl rc fl fc : Nat) (v : Bool) (hv : Hid (pB (HeadP i o n s rl fl) = v)) :
    Calls Try.prog 30 #[.agg #[.int .i64 i, .int .i64 o, .int .i64 n, .int .i64 s, .slice ra rl rc, .slice fa fl fc]] w (RetV w0 (.bool v) F) := by
  have HK := St.box hK [.int .i64 i, .int .i64 o, .int .i64 n, .int .i64 s, .slice ra rl rc, .slice fa fl fc] 26
  by_cases s1 : SortOk i
  case neg =>
    have h1 := dom_zero s1
    obtain rfl := pB_f hv (fun h => s1 h.1)
    clear s1
    go_enter Try.func30, Try.ntmps30
    go_wp2_with fail
    refine (DomX_st HK i).mono ?_
    rintro e w1 ⟨A1, c1, rfl, HK1⟩
    go_wp2_with fail
    go_ret
    exact ⟨rfl, Lib.hid (HK1.out.weaken fun _ h => h.2.2)⟩
  have h1 := dom_pos s1
  by_cases s2 : SortOk o
  case neg =>
    have h2 := dom_zero s2
    obtain rfl := pB_f hv (fun h => s2 h.2.1)
    clear s1 s2
    go_enter Try.func30, Try.ntmps30
    go_wp2_with fail
    refine (DomX_st HK i).mono ?_
    rintro e w1 ⟨A1, c1, rfl, HK1⟩
    obtain ⟨q0, q1, q2, q3, q4, q5⟩ := HK1.out.now.2.1.c6
    go_wp2_with fail
    refine (DomX_st HK1 o).mono ?_
    rintro e w2 ⟨A2, c2, rfl, HK2⟩
    go_wp2_with fail
    go_ret
    exact ⟨rfl, Lib.hid (HK2.out.weaken fun _ h => h.2.2.2)⟩
  have h2 := dom_pos s2
  have HS := Lib.hid (And.intro s1 s2)
  clear s1 s2
  go_enter Try.func30, Try.ntmps30
  go_wp2_with fail
  refine (DomX_st HK i).mono ?_
  rintro e w1 ⟨A1, c1, rfl, HK1⟩
  obtain ⟨q0, q1, q2, q3, q4, q5⟩ := HK1.out.now.2.1.c6
  go_wp2_with fail
  refine (DomX_st HK1 o).mono ?_
  rintro e w2 ⟨A2, c2, rfl, HK2⟩
  have HK2 : Hid (St w0 w2 (fun W => BoxC w.heap.size [.int .i64 i, .int .i64 o, .int .i64 n, .int .i64 s, .slice ra rl rc, .slice fa fl fc] W ∧ F W)) := Lib.hid (HK2.out.weaken fun _ h => h.2.2)
  clear q0 q1 q2 q3 q4 q5 HK HK1
  obtain ⟨q0, q1, q2, q3, q4, q5⟩ := HK2.out.now.1.c6
  by_cases n1 : 1 ≤ n
  case neg =>
    obtain rfl := pB_f hv (fun h => n1 h.2.2.1)
    go_wp2_with fail
    go_ret
    exact ⟨rfl, Lib.hid (HK2.out.weaken fun _ h => h.2)⟩
  by_cases n2 : n ≤ 1024
  case neg =>
    obtain rfl := pB_f hv (fun h => n2 h.2.2.2.1)
    go_wp2_with fail
    go_ret
    exact ⟨rfl, Lib.hid (HK2.out.weaken fun _ h => h.2)⟩
  by_cases st : StateOk n s
  case neg =>
    obtain rfl := pB_f hv (fun h => st h.2.2.2.2.1)
    have H1 := Lib.hid (pB_false st)
    clear st
    go_wp2_with fail
    refine (state_st HK2 i o n s ra fa rl rc fl fc s false H1).mono ?_
    rintro e w3 ⟨rfl, HK3⟩
    go_wp2_with fail
    go_ret
    exact ⟨rfl, Lib.hid (HK3.out.weaken fun _ h => h.2)⟩
  have H1 := Lib.hid (pB_true st)
  have HST := Lib.hid st
  clear st
  go_wp2_with fail
  refine (state_st HK2 i o n s ra fa rl rc fl fc s true H1).mono ?_
  rintro e w3 ⟨rfl, HK3⟩
  clear q0 q1 q2 q3 q4 q5
  obtain ⟨q0, q1, q2, q3, q4, q5⟩ := HK3.out.now.1.c6
  by_cases r1 : (rl : Int) ≤ 4096
  case neg =>
    obtain rfl := pB_f hv (fun h => r1 (by have := h.2.2.2.2.2.1; omega))
    go_wp2_with fail
    go_ret
    exact ⟨rfl, Lib.hid (HK3.out.weaken fun _ h => h.2)⟩
  by_cases f1 : (fl : Int) ≤ 4096
  case neg =>
    obtain rfl := pB_f hv (fun h => f1 (by have := h.2.2.2.2.2.2; omega))
    have f1' : decide ((fl : Int) ≤ 4096) = false := by simpa using f1
    go_wp2_with fail
    go_ret
    exact ⟨rfl, Lib.hid (HK3.out.weaken fun _ h => h.2)⟩
  obtain rfl := pB_t hv ⟨HS.out.1, HS.out.2, n1, n2, HST.out, by omega, by omega⟩
  go_wp2_with fail
  go_ret
  exact ⟨rfl, Lib.hid (HK3.out.weaken fun _ h => h.2)⟩
def WritesTo (i o : Int) (gs : List (List Sp)) (l : List TermI) (k : Nat) : Prop := ∀ t ∈ l.take k, FitsP i o gs t.L
theorem writes_st (hK : Hid (St w0 w F)) (i o n s : Int) (ra fa : Option Addr) (rl rc fl fc : Nat) {TA : Option Addr} {T : List TermI} (ht : ∀ W, F W → TermsAt TA T W) (tc : Nat) {B : Option Addr} {O : List (Item Sp)} (hb : ∀ W, F W → LLx B O W) (cb : Nat)
    (h4 : O.length ≤ 4) (v : Bool) (hv : Hid (pB (WritesOk i o (bodies O) (T.map TermI.L)) = v)) (hst : ∀ t ∈ T, StageP t.ps) :
    Calls Try.prog 34 #[.agg #[.int .i64 i, .int .i64 o, .int .i64 n, .int .i64 s, .slice ra rl rc, .slice fa fl fc], .slice TA T.length tc, .slice B O.length cb] w (RetV w0 (.bool v) F) := by
  have HT := Lib.hid ht
  have HB := Lib.hid hb
  have HST := Lib.hid hst
  have hln := (ht _ hK.out.now).ln
  have HK := St.box hK [.int .i64 i, .int .i64 o, .int .i64 n, .int .i64 s, .slice ra rl rc, .slice fa fl fc] 26
  clear ht hb hst
  by_cases h64 : (T.length : Int) ≤ 64
  case neg =>
    obtain rfl := pB_f hv (fun h => h64 (by have := h.1; rw [List.length_map] at this; omega))
    go_enter Try.func34, Try.ntmps34
    go_wp2_with fail
    go_ret
    exact ⟨rfl, Lib.hid (HK.out.weaken fun _ h => h.2)⟩
  go_enter Try.func34, Try.ntmps34
  go_wp2_with fail
  go_loopw [14] (fun iv wr => ∃ k : Nat, k ≤ T.length ∧ iv = .int .i64 k ∧ Hid (WritesTo i o (bodies O) T k) ∧ Hid (St w0 wr (fun W => BoxC w.heap.size [.int .i64 i, .int .i64 o, .int .i64 n, .int .i64 s, .slice ra rl rc, .slice fa fl fc] W ∧ F W))) (fun iv _ => T.length - (intOf iv).toNat)
  case atStart => exact ⟨0, Nat.zero_le _, rfl, Lib.hid (fun g hg => by simp at hg), HK⟩
  case round =>
  clear HK
  obtain ⟨k, hk, rfl, HR, HK⟩ := hrel
  by_cases hlt : k < T.length
  · obtain ⟨tb, off, t, rfl, hx, hw, hd0, hd1, hd2, hd3, hd4, hd5⟩ := (HT.out _ HK.out.now.2).at_ hlt
    have HX := Lib.hid hx
    have HKt := Lib.hid (HK.out.add (Below.refl _ _) (G := PartsAt t.pa t.ps) (fun W hW => hw.2.below hW))
    have HKp := St.box HKt (termC t) 100
    have hsp := HST.out t (List.mem_of_getElem? hx)
    have HBAD : ¬ FitsP i o (bodies O) t.L → v = false := fun h => pB_f hv (fun g => h (g.2 _ (List.mem_map.2 ⟨t, List.mem_of_getElem? HX.out, rfl⟩)))
    obtain ⟨b, d, tt, u, sm, pa, pc, ps⟩ := t
    simp only [termC] at hd0 hd1 hd2 hd3 hd4 hd5 HKp HKt hsp
    obtain ⟨q0, q1, q2, q3, q4, q5⟩ := HKp.out.now.2.2.1.c6
    have HSP := Lib.hid hsp
    clear hx hw hsp
    by_cases a1 : FitsP i o (bodies O) ⟨b, d, tt, u, sm, ps⟩
    · have H1 := Lib.hid (pB_true a1)
      have HN : Hid (WritesTo i o (bodies O) T (k + 1)) := Lib.hid fun q hq => by
        rw [take_snoc? HX.out] at hq
        rcases List.mem_append.1 hq with hq | hq
        · exact HR.out q hq
        · simp at hq; subst hq; exact a1
      clear a1 HBAD
      go_wp2_with fail
      refine (Fits_st HKp (fun _ h => h.2.1) b d tt u sm pc i o (fun _ h => HB.out _ h.2.2.2) cb h4 true H1 HSP.out).mono ?_
      rintro e w3 ⟨rfl, HK3⟩
      go_wp2_with fail
      go_roundw
      case rel => exact ⟨k + 1, by omega, by go_num, HN, Lib.hid (HK3.out.weaken fun _ h => h.2.2)⟩
      case measure => simp [intOf]; omega
    · have H1 := Lib.hid (pB_false a1)
      obtain rfl := HBAD a1
      clear a1 HBAD
      go_wp2_with fail
      refine (Fits_st HKp (fun _ h => h.2.1) b d tt u sm pc i o (fun _ h => HB.out _ h.2.2.2) cb h4 false H1 HSP.out).mono ?_
      rintro e w3 ⟨rfl, HK3⟩
      go_wp2_with fail
      go_ret
      exact ⟨rfl, Lib.hid (HK3.out.weaken fun _ h => h.2.2.2)⟩
  · obtain rfl : k = T.length := by omega
    have hd : decide (T.length < T.length) = false := by simp
    obtain rfl := pB_t hv ⟨by rw [List.length_map]; omega, fun t ht => by
      obtain ⟨t', ht', rfl⟩ := List.mem_map.1 ht
      exact HR.out t' (by rwa [List.take_length])⟩
    go_wp2_with fail
    go_ret
    exact ⟨rfl, Lib.hid (HK.out.weaken fun _ h => h.2)⟩
end
end Go.Proofs.Ytlmkokeapbleoaa
end
section
namespace Go.Proofs.Ytlmkokeapbleoaa
open Go.RowKit
def OnG (ls : List Int) (gs : List (List Sp)) (w : List Int) : Prop := ∀ (j : Nat) g c, gs[j]? = some g → w[j]? = some c → hasB g (ls.getD c.toNat 0) = true
def ClsOk (ls : List Int) (w : List Int) : Prop := w.length ≤ 4 ∧ ∀ c ∈ w, 0 ≤ c ∧ c < ls.length
def wordC (w : List Int) : List Value := [.int .i64 w.length, .int .i64 (w.getD 0 0), .int .i64 (w.getD 1 0), .int .i64 (w.getD 2 0), .int .i64 (w.getD 3 0)]
theorem BoxC.word {b : Nat} {w : List Int} {W : World} (h : BoxC b (wordC w) W) {k : Nat} {c : Int} (hw : w.length ≤ 4) (hc : w[k]? = some c) : W.cell? ⟨b, 1 + k, none⟩ = some (.int .i64 c) := by
  have hk := (List.getElem?_eq_some_iff.1 hc).1
  have : k = 0 ∨ k = 1 ∨ k = 2 ∨ k = 3 := by omega
  have hg : w.getD k 0 = c := by rw [List.getD_eq_getElem?_getD, hc]; rfl
  rcases this with rfl | rfl | rfl | rfl
  · exact h 1 _ (by simp only [wordC]; rw [← hg]; rfl)
  · exact h 2 _ (by simp only [wordC]; rw [← hg]; rfl)
  · exact h 3 _ (by simp only [wordC]; rw [← hg]; rfl)
  · exact h 4 _ (by simp only [wordC]; rw [← hg]; rfl)
section
variable {w0 w : World} {F : World → Prop}
end
end Go.Proofs.Ytlmkokeapbleoaa
end
section
namespace Go.Proofs.Ytlmkokeapbleoaa
open Go.RowKit
end Go.Proofs.Ytlmkokeapbleoaa
end
section
namespace Go.Proofs.Ytlmkokeapbleoaa
open Go.RowKit
def Unf (A : Option Addr) (m : Nat) (W : World) : Prop := ∀ g off, A = some ⟨g, off, none⟩ → ∀ j, j < m → g < W.heap.size ∧ W.frozen? ⟨g, off + j, none⟩ = false
theorem Unf.below {A : Option Addr} {m : Nat} {W W' : World} (h : Unf A m W) (hb : Below W.heap.size W W') : Unf A m W' := fun g off e j hj => by
  have h1 := h g off e j hj
  exact ⟨by have := hb.size; omega, (hb.frozen (p := ⟨g, off + j, none⟩) h1.1).trans h1.2⟩
def TermF (t : TermI) (W : World) : Prop := Unf t.pa (t.ps.length * 4) W
def OutF (o : OutI) (W : World) : Prop := Unf o.a (o.l.length * 6) W ∧ ∀ t ∈ o.l, TermF t W
theorem OutF.below {o : OutI} {W W' : World} (h : OutF o W) (hb : Below W.heap.size W W') : OutF o W' := ⟨h.1.below hb, fun t ht => (h.2 t ht).below hb⟩
end Go.Proofs.Ytlmkokeapbleoaa
end
