/- Contract of term.inner. Condition: the parts and the guards are known, the parts are right. Contracts of span.Each and of the iterator that it gives. Condition: a list of fewer than 2^37 spans, whose numbers are ints; the loop's body keeps whatever is not its own. A region that draws its order, in the round of a range over a function: what is shown of it outside of a round holds there too. A row of spans that a loop's body appends to. Condition: no defer in the region. 'out = append(out, span)' at a row of spans of the call's own, one or two spans at once, in a round too. Condition: fewer than 2^40 spans. Plain facts on the values of parts: what comes of a span, and of which numbers a value comes. No program in sight. Condition: none. Contract of part.Image: the plain list of the values of a set's numbers. Condition: the list at hand is known. -/
import Derived.Test.YtlmkokeapbleoaaGreatM05
import Derived.Test.YtlmkokeapbleoaaGreatM04
import Derived.RangeFuncNested
import Derived.RangeFuncBound
import Derived.RangeFuncCalls
import Derived.RangeFuncLeaves
import Derived.Shelf.Abstract
import Derived.Shelf.RegionOpen
import Derived.OwnWalkIn
import Derived.TacticsInMore
import Derived.LoopNIn
import Derived.LoopIn
import Derived.Deep.RegionHeld
import Derived.Deep.RegionHeld3
import Derived.Maps.OwnIn
import Derived.Deep.Cut
import Derived.Deep.CutBlock
section
namespace Go.Proofs.YtlmkokeapbleoaaGreat
open Go.RowKit
set_option linter.unusedVariables false
set_option linter.unusedSimpArgs false
section
variable {w0 w : World} {F : World → Prop}
theorem symbols_st (hK : Hid (St w0 w F)) : Calls Tryz.prog 241 #[] w (RetL w0 [(0, 1114111)] F) := by
  go_enter Tryz.func241, Tryz.ntmps241
  go_wp2_with fail
  go_ret
  exact ⟨_, 1, rfl, St.lit hK (0, 1114111) (by intro p hp; simp at hp; subst hp; simp)⟩
def SymNe (gs : List (List Sp)) (k : Nat) : Prop := ∀ g ∈ gs.take k, symL g ≠ []
theorem symNe_next {gs : List (List Sp)} {k : Nat} {g : List Sp} (h : gs[k]? = some g) : SymNe gs (k + 1) ↔ (SymNe gs k ∧ symL g ≠ []) := by
  unfold SymNe
  rw [take_snoc? h]
  constructor
  · intro q; exact ⟨fun x hx => q x (List.mem_append.2 (.inl hx)), q g (by simp)⟩
  · rintro ⟨q1, q2⟩ x hx
    rcases List.mem_append.1 hx with hx | hx
    · exact q1 x hx
    · simp at hx; subst hx; exact q2
set_option maxRecDepth 100000 in
set_option maxHeartbeats 32000000 in
theorem inner_st (hK : Hid (St w0 w F)) {A : Option Addr} {l : List PartL} (hp : ∀ W, F W → PartsAt A l W) (b d t u s : Int) (c : Nat) {B : Option Addr} {O : List (Item Sp)} (hb : ∀ W, F W → LLx B O W) (cb : Nat)
    (h4 : O.length ≤ 4) (hn : Hid (NumsOk ⟨b, d, t, u, s, l⟩)) (hpo : Hid (∀ p ∈ l, PartOk O.length p)) (r : List Sp) (hr : Hid (Rep r (InnS ⟨b, d, t, u, s, l⟩ (bodies O)))) (ok : Bool) (hok : Hid (pB (InRange ⟨b, d, t, u, s, l⟩ (bodies O)) = ok)) (hst : StageP l) :
    Calls Tryz.prog 228 #[.agg #[.int .i64 b, .int .i64 d, .int .i64 t, .int .i64 u, .int .i64 s, .slice A l.length c], .slice B O.length cb] w (RetLB2 w0 r ok F) := by
  have HP := Lib.hid hp
  have HB := Lib.hid hb
  have hl4 : l.length ≤ 4 := hn.out.2.2.2.2
  have h4' : (O.length : Int) ≤ 4 := by omega
  have HK := St.box hK [.int .i64 b, .int .i64 d, .int .i64 t, .int .i64 u, .int .i64 s, .slice A l.length c] 68
  have HN := Lib.hid (pB_true hn.out)
  obtain ⟨q0, q1, q2, q3, q4, q5⟩ := HK.out.now.1.c6
  have hmk : ∀ w : World, (Instr.makeSlice 29 (.int .i64 (O.length : Int)) (.int .i64 (O.length : Int))).run Tryz.prog w = .ok (.slice (some ⟨w.heap.size, 0, none⟩) O.length O.length) (w.alloc (.cells (madeCells #[.slice none 0 0] O.length) 103)) := fun w => run_make_row' 29 103 (.slice none 0 0) 24 Tryz.underlying29 infoHdy rfl .i64 .i64 O.length (by omega) (by omega) w
  clear hp hb
  go_enter Tryz.func228, Tryz.ntmps228
  go_wp2_with fail
  refine (numbers_st HK (fun _ h => HP.out _ h.2) b d t u s c true HN).mono ?_
  rintro e w3 ⟨rfl, HK3⟩
  clear q0 q1 q2 q3 q4 q5 HK
  go_wp2_with fail
  clear hmk
  go_loopw [6, 25] (fun sv iv wr => ∃ (k : Nat) (sb : Bool) (Q : List (Item Sp)), k ≤ O.length ∧ iv = .int .i64 k ∧ sv = .bool sb ∧ Q.length = O.length ∧ Hid (pB (SymNe (bodies O) k) = sb) ∧ Hid (bodies Q = ((bodies O).map symL).take k ++ List.replicate (O.length - k) []) ∧ Hid (RwB w3.heap.size w3.heap.size Q wr) ∧ Hid (Below w3.heap.size w3 wr)) (fun _ iv _ => O.length - (intOf iv).toNat)
  case atStart =>
    refine ⟨0, true, List.replicate O.length (none, 0, []), Nat.zero_le _, rfl, rfl, by simp, Lib.hid (pB_true fun g hg => by simp at hg), Lib.hid (by simp [bodies]), Lib.hid ?_, Lib.hid ?_⟩
    · exact RwB.start w3 O.length
    · exact (Below.refl _ _).alloc (Nat.le_refl _) _
  case round =>
  obtain ⟨k, sb, Q, hk, rfl, rfl, hQl, HS, HQ, HRW, HBL⟩ := hrel
  have HKr : Hid (St w0 wr (fun W => BoxC w.heap.size [.int .i64 b, .int .i64 d, .int .i64 t, .int .i64 u, .int .i64 s, .slice A l.length c] W ∧ F W)) := Lib.hid (HK3.out.step HBL.out)
  by_cases hlt : k < O.length
  · obtain ⟨gb, off, ga, gc, g, rfl, _, hg, hc, hl⟩ := (HB.out _ HKr.out.now.2).at_ hlt
    have HG := Lib.hid hg
    have HKi := Lib.hid (HKr.out.add (Below.refl _ _) (G := Lst ga g) (fun W hW => hl.below hW))
    have hsz : w3.heap.size ≤ wr.heap.size := by have := HBL.out.size; omega
    have HRS : Hid (Rep (symL g) (fun x => Mem g x ∧ Mem [(0, 1114111)] x)) := Lib.hid (symL_rep g)
    obtain ⟨sl, hsl⟩ : ∃ z, symL g = z := ⟨_, rfl⟩
    rw [hsl] at HRS
    have HSL := Lib.hid hsl
    have HNX := Lib.hid (symNe_next hg)
    have hnew : (bodies (Q.set k (none, 0, sl))) = ((bodies O).map symL).take (k + 1) ++ List.replicate (O.length - (k + 1)) [] := by
      have hG2 : ((bodies O).map symL)[k]? = some sl := by rw [List.getElem?_map, hg, ← hsl]; rfl
      have e := fill_set hG2
      rw [List.length_map, bodies_length, ← HQ.out] at e
      rw [← e]; unfold bodies; rw [List.map_set]
    have HNEW := Lib.hid hnew
    have hkq : k < Q.length := by omega
    clear hg hl hsl hnew
    go_wp2_with fail
    refine (symbols_st (St.here HKi)).mono ?_
    rintro e w4 ⟨A4, c4, rfl, HK4⟩
    go_wp2_with fail
    refine (Meet_stD HK4 (fun _ h => h.2.1) (fun _ h => h.1) gc c4 HRS).mono ?_
    rintro e w5 ⟨A5, c5, rfl, HD5, HK5, HB5⟩
    have HD6 := Lib.hid (HD5.out.mono (P' := fun k => wr.heap.size ≤ k) fun k hp _ => Nat.le_trans HK4.out.2.size hp)
    have HRN := Lib.hid (HRW.out.set (by omega) HK5.out.2 (i := k) (c := c5) HD6.out)
    obtain ⟨vc, hvc, hvf⟩ := (HRW.out.below HK5.out.2).cell hkq
    have hcs : (w5.setCell ⟨w3.heap.size, k, none⟩ (.slice A5 sl.length c5)).cell? ⟨w3.heap.size, k, none⟩ = some (.slice A5 sl.length c5) := World.cell?_setCell_same _ _ _ hvc
    have HBN : Hid (Below w3.heap.size w3 (w5.setCell ⟨w3.heap.size, k, none⟩ (.slice A5 sl.length c5))) := Lib.hid ((HBL.out.trans (HK5.out.2.mono hsz)).setCell (Nat.le_refl _) _)
    have HQN : Hid (bodies (Q.set k (A5, c5, sl)) = ((bodies O).map symL).take (k + 1) ++ List.replicate (O.length - (k + 1)) []) := Lib.hid (by
      rw [← HNEW.out]; unfold bodies; rw [List.map_set, List.map_set])
    have hQl2 : (Q.set k (A5, c5, sl)).length = O.length := by rw [List.length_set]; exact hQl
    have HQl2 := Lib.hid hQl2
    have HLT := Lib.hid hlt
    have hkO : (k : Int) < (O.length : Int) := by omega
    clear hQl2 hsz hkq hlt hc hQl
    rcases sb with _ | _
    · have HSN : Hid (pB (SymNe (bodies O) (k + 1)) = false) := Lib.hid (pB_false fun h => by
        have h2 := pB_true (HNX.out.1 h).1
        rw [HS.out] at h2; cases h2)
      go_wp2_with fail
      go_roundw
      case rel => exact ⟨k + 1, false, Q.set k (A5, c5, sl), by have := HLT.out; omega, by go_num, rfl, HQl2.out, HSN, HQN, HRN, HBN⟩
      case measure => have := HLT.out; simp [intOf]; omega
    by_cases hn : sl = []
    · subst hn
      have HSN : Hid (pB (SymNe (bodies O) (k + 1)) = false) := Lib.hid (pB_false fun h => (HNX.out.1 h).2 HSL.out)
      go_wp2_with fail
      go_roundw
      case rel => exact ⟨k + 1, false, Q.set k (A5, c5, []), by have := HLT.out; omega, by go_num, rfl, HQl2.out, HSN, HQN, HRN, HBN⟩
      case measure => have := HLT.out; simp [intOf]; omega
    · have hpos : decide (0 < sl.length) = true := by simpa using List.length_pos_iff.2 hn
      have HSN : Hid (pB (SymNe (bodies O) (k + 1)) = true) := Lib.hid (pB_true (HNX.out.2 ⟨pB_iff.1 HS.out, by rw [HSL.out]; exact hn⟩))
      clear hn
      go_wp2_with fail
      go_roundw
      case rel => exact ⟨k + 1, true, Q.set k (A5, c5, sl), by have := HLT.out; omega, by go_num, rfl, HQl2.out, HSN, HQN, HRN, HBN⟩
      case measure => have := HLT.out; simp [intOf]; omega
  · obtain rfl : k = O.length := by omega
    have hd : decide (O.length < O.length) = false := by simp
    have HBQ : Hid (bodies Q = (bodies O).map symL) := Lib.hid (by
      rw [HQ.out, Nat.sub_self, List.replicate_zero, List.append_nil, List.take_of_length_le (by rw [List.length_map, bodies_length]; exact Nat.le_refl _)])
    have HKs := Lib.hid (HKr.out.add (Below.refl _ _) (G := LLx (some ⟨w3.heap.size, 0, none⟩) Q) (fun W hW => (HRW.out.row (Nat.le_refl _) (by omega)).mono (P' := fun _ => True) (fun _ _ _ => trivial) W (fun k _ hk => hW.block k hk)))
    have HSA : Hid (pB (∀ g ∈ bodies O, symL g ≠ []) = sb) := Lib.hid (by
      rw [← HS.out]; unfold SymNe; rw [List.take_of_length_le (by rw [bodies_length]; exact Nat.le_refl _)])
    have hc5 := HKs.out.now.2.1 5 _ rfl
    rw [← hQl]
    have HQl := Lib.hid hQl
    clear hQl HS HQ
    go_wp2_with fail
    clear hc5
    go_loopw [49] (fun iv wr2 => ∃ k : Nat, k ≤ l.length ∧ iv = .int .i64 k ∧ Hid (St w0 wr2 (fun W => LLx (some ⟨w3.heap.size, 0, none⟩) Q W ∧ BoxC w.heap.size [.int .i64 b, .int .i64 d, .int .i64 t, .int .i64 u, .int .i64 s, .slice A l.length c] W ∧ F W))) (fun iv _ => l.length - (intOf iv).toNat)
    case atStart => exact ⟨0, Nat.zero_le _, rfl, HKs⟩
    case round =>
    clear HKs HKr HRW HBL
    obtain ⟨k, hk, rfl, HKs⟩ := hrel
    by_cases hlt : k < l.length
    · obtain ⟨pb, off, p, rfl, hx, hw, hd0, hd1, hd2, hd3⟩ := (HP.out _ HKs.out.now.2.2).at_ hlt
      have H2 := Lib.hid (pB_true (hpo.out p (List.mem_of_getElem? hx)))
      have HKp := St.box HKs [.int .i64 p.1, .int .i64 p.2.1, .int .i64 p.2.2.1, .int .i64 p.2.2.2] 70
      obtain ⟨x1, x2, x3, x4⟩ := p
      simp only at hd0 hd1 hd2 hd3 HKp
      clear hx hw
      rw [HQl.out]
      go_wp2_with fail
      refine (PRight_st HKp x1 x2 x3 x4 O.length true H2).mono ?_
      rintro e w6 ⟨rfl, HK6⟩
      go_wp2_with fail
      go_roundw
      case rel => exact ⟨k + 1, by omega, by go_num, Lib.hid (HK6.out.weaken fun _ h => h.2)⟩
      case measure => simp [intOf]; omega
    · obtain rfl : k = l.length := by omega
      have hd : decide (l.length < l.length) = false := by simp
      rcases sb with _ | _
      · have hno : ∀ w, ¬ WinG (bodies O) w := fun w hw => by
          have h1 : ¬ ∀ g ∈ bodies O, symL g ≠ [] := fun h => by have := pB_true h; rw [HSA.out] at this; cases this
          apply h1
          intro g hg h2
          exact win_none hg h2 w hw
        obtain rfl := pB_t hok (fun v ⟨w, hw, _⟩ => absurd hw (hno w))
        obtain rfl := Rep.unique hr.out (show Rep [] (InnS ⟨b, d, t, u, s, l⟩ (bodies O)) from ⟨by simp [Plain, PlainF], fun v => by
          simp only [InS, false_iff]
          rintro ⟨w, hw, _⟩
          exact hno w hw⟩) (fun _ => Iff.rfl)
        go_wp2_with fail
        go_ret2
        exact ⟨none, 0, rfl, Lib.hid (HKs.out.weaken fun W h => ⟨lst_nil W, h.2.2⟩)⟩
      · have HO : Hid (∀ g ∈ bodies Q, g ≠ [] ∧ Plain g ∧ ∀ x, InS g x → 0 ≤ x ∧ x ≤ 1114111) := Lib.hid fun g hg => by
          rw [HBQ.out] at hg
          obtain ⟨g', hg', rfl⟩ := List.mem_map.1 hg
          refine ⟨pB_iff.1 HSA.out g' hg', (symL_rep g').1, fun x hx => ?_⟩
          exact ((symL_mem g' x).1 (((symL_rep g').1.mem x).2 hx)).2
        have HPQ : Hid (∀ p ∈ l, PartOk Q.length p) := Lib.hid (by rw [HQl.out]; exact hpo.out)
        have HR2 : Hid (Rep r (InnS ⟨b, d, t, u, s, l⟩ (bodies Q))) := Lib.hid (by rw [HBQ.out]; exact hr.out.congr fun v => (innS_sym _ _ v).symm)
        have HOK2 : Hid (pB (InRange ⟨b, d, t, u, s, l⟩ (bodies Q)) = ok) := Lib.hid (by
          rw [← hok.out, HBQ.out]
          exact pB_congr ⟨fun h v hv => h v ((innS_sym _ _ v).2 hv), fun h v hv => h v ((innS_sym _ _ v).1 hv)⟩)
        obtain ⟨q0, q1, q2, q3, q4, q5⟩ := HKs.out.now.2.1.c6
        go_wp2_with fail
        refine (values_st HKs (fun _ h => HP.out _ h.2.2) b d t u s c (fun _ h => h.1) Q.length hn HPQ HO r HR2 ok HOK2 hst).mono ?_
        rintro e w7 ⟨A7, c7, rfl, HK7⟩
        go_wp2_with fail
        go_ret2
        exact ⟨A7, c7, rfl, Lib.hid (HK7.out.weaken fun W h => ⟨h.1, h.2.2.2⟩)⟩
end
end Go.Proofs.YtlmkokeapbleoaaGreat
end
section
namespace Go.Proofs.YtlmkokeapbleoaaGreat
open Go.RowKit Go.Shelf
set_option linter.unusedVariables false
attribute [local go_sem] Oper.semAt_some

/-- the numbers of a span, of a list of spans, rising -/
def numsOf (p : Sp) : List Int := (List.range (p.2 - p.1 + 1).toNat).map fun i : Nat => p.1 + (i : Int)
def nums (r : List Sp) : List Int := r.flatMap numsOf
theorem numsOf_length (p : Sp) : (numsOf p).length = (p.2 - p.1 + 1).toNat := by simp [numsOf]
theorem nums_cons (p : Sp) (r : List Sp) : nums (p :: r) = numsOf p ++ nums r := rfl
theorem nums_append (r s : List Sp) : nums (r ++ s) = nums r ++ nums s := by simp [nums]
theorem nums_length {a : Int} {r : List Sp} (h : PlainF a r) : ((nums r).length : Int) = cnt r := by
  induction r generalizing a with
  | nil => rfl
  | cons p r ih =>
    obtain ⟨h1, h2, h3, h4⟩ := h
    rw [nums_cons, List.length_append, numsOf_length, cnt_cons, ← ih h4]
    omega
/-- what a loop's body may write: its variables' boxes, and the row that one of them holds -/
def OwnB (lo hi Bu : Nat) (W : World) (k : Nat) : Prop := (lo ≤ k ∧ k < hi) ∨ ∃ off n c, W.cell? ⟨Bu, 0, none⟩ = some (.slice (some ⟨k, off, none⟩) n c)
/-- .. and nothing else: O says what is its own -/
structure KpO (O : World → Nat → Prop) (W W' : World) : Prop where
  size : W.heap.size ≤ W'.heap.size
  cell : ∀ (p : Addr) v, W.cell? p = some v → ¬ O W p.block → W'.cell? p = some v
  own : ∀ k, O W' k → O W k ∨ W.heap.size ≤ k
  wf : (∀ k, O W k → k < W.heap.size) → (∀ k, O W' k → k < W'.heap.size)
abbrev KpB (lo hi Bu : Nat) := KpO (OwnB lo hi Bu)
/-- what is its own hangs on the blocks below B0 alone -/
def OnB (B0 : Nat) (O : World → Nat → Prop) : Prop := ∀ W W' : World, (∀ k, k < B0 → W'.heap[k]? = W.heap[k]?) → ∀ k, O W' k ↔ O W k
section
variable {O : World → Nat → Prop} {A B C W W' : World}
theorem KpO.refl (W : World) : KpO O W W := ⟨Nat.le_refl _, fun _ _ h _ => h, fun _ h => .inl h, fun h => h⟩
theorem KpO.trans (h : KpO O A B) (k : KpO O B C) : KpO O A C := by
  refine ⟨Nat.le_trans h.size k.size, fun p v hv ho => ?_, fun j hj => ?_, fun hw => k.wf (h.wf hw)⟩
  · refine k.cell p v (h.cell p v hv ho) fun ho' => ?_
    rcases h.own _ ho' with h1 | h1
    · exact ho h1
    · have := World.block_lt_of_cell? A p hv; omega
  · rcases k.own j hj with h1 | h1
    · exact h.own j h1
    · exact .inr (Nat.le_trans h.size h1)
/-- where what is its own is as it was -/
theorem KpO.same (hs : W.heap.size ≤ W'.heap.size) (hc : ∀ (p : Addr) v, W.cell? p = some v → ¬ O W p.block → W'.cell? p = some v) (hb : ∀ k, O W' k ↔ O W k) : KpO O W W' :=
  ⟨hs, hc, fun k hk => .inl ((hb k).1 hk), fun hw k hk => Nat.lt_of_lt_of_le (hw k ((hb k).1 hk)) hs⟩
theorem KpO.below {n : Nat} (h : Below n W W') (hn : W.heap.size ≤ n) {B0 : Nat} (hO : OnB B0 O) (hb : B0 ≤ W.heap.size) : KpO O W W' :=
  KpO.same h.size (fun p u hu _ => (h.cell (Nat.lt_of_lt_of_le (World.block_lt_of_cell? W p hu) hn)).trans hu) (hO _ _ fun k hk => h.block k (by omega))
end
section
variable {lo hi Bu : Nat} {A B C W W' : World}
theorem OwnB.congr (h : W'.cell? ⟨Bu, 0, none⟩ = W.cell? ⟨Bu, 0, none⟩) (k : Nat) : OwnB lo hi Bu W' k ↔ OwnB lo hi Bu W k := by unfold OwnB; rw [h]
theorem ownB_on {B0 : Nat} (h : Bu < B0) : OnB B0 (OwnB lo hi Bu) := fun W W' hW k => OwnB.congr (World.cell?_of_block (hW Bu h)) k
theorem KpB.refl (W : World) : KpB lo hi Bu W W := KpO.refl W
theorem KpB.trans (h : KpB lo hi Bu A B) (k : KpB lo hi Bu B C) : KpB lo hi Bu A C := KpO.trans h k
/-- where the box that may hold a row is as it was -/
theorem KpB.same (hs : W.heap.size ≤ W'.heap.size) (hc : ∀ (p : Addr) v, W.cell? p = some v → ¬ OwnB lo hi Bu W p.block → W'.cell? p = some v) (hb : W'.cell? ⟨Bu, 0, none⟩ = W.cell? ⟨Bu, 0, none⟩) : KpB lo hi Bu W W' :=
  KpO.same hs hc (OwnB.congr hb)
theorem KpB.setCell (b : Nat) (v : Value) (h1 : lo ≤ b) (h2 : b < hi) (hne : b ≠ Bu) : KpB lo hi Bu W (W.setCell ⟨b, 0, none⟩ v) := by
  refine KpB.same (by simp) (fun p u hu ho => ?_) ?_
  · rw [World.cell?_setCell_far _ _ _ _ (fun e => ho (.inl (by rw [← e]; exact ⟨h1, h2⟩)))]; exact hu
  · exact World.cell?_setCell_far _ _ _ _ hne
theorem KpB.below {n : Nat} (h : Below n W W') (hn : W.heap.size ≤ n) (hb : Bu < W.heap.size) : KpB lo hi Bu W W' :=
  KpB.same h.size (fun p u hu _ => (h.cell (Nat.lt_of_lt_of_le (World.block_lt_of_cell? W p hu) hn)).trans hu) (h.cell (Nat.lt_of_lt_of_le hb hn))
theorem kpB_t (h : KpB lo hi Bu A B) (k : KpB lo hi Bu B C) : KpB lo hi Bu A C := h.trans k
theorem kpB_b {w : World} (hb : Bu < w.heap.size) (W : World) (l : Nat) (o o' : Obj) (hl : w.heap.size ≤ l) (h : W.heap[l]? = some o) (hc : o.isCells = false) (_ : o.isWalk = false) : KpB lo hi Bu W (W.putObj l o') := by
  have hlt := (Array.getElem?_eq_some_iff.1 h).1
  have hb2 := belowK_b (n₀ := w.heap.size) (Nat.le_refl _) W l o o' hl h hc (by assumption)
  refine KpB.same hb2.size (fun p u hu _ => ?_) (hb2.cell (p := ⟨Bu, 0, none⟩) hb)
  have hne : p.block ≠ l := by
    intro e
    unfold World.cell? at hu
    rw [e, h] at hu
    cases o <;> simp_all [Obj.isCells]
  have hg := grownBy_putObj' W l o'
  rw [← hu]
  exact World.cell?_of_block (hg.block p.block (World.block_lt_of_cell? W p hu) (fun e => hne (by simpa using e)))
end

set_option maxRecDepth 100000 in
set_option maxHeartbeats 4000000 in
theorem Each_any (A : Option Addr) (n c : Nat) (l r : List Sp) (w : World) (h : Spans w A n l) (hw : SpW l) (hn : n < 137438953472) (hr : Rep r (Mem l)) :
    Calls Tryz.prog 243 #[.slice A n c] w fun e w' => ∃ B g c1, e = .returned (.func (.func 249) #[] #[.pointer (some ⟨B, 0, none⟩)]) ∧ (w.heap.size ≤ B ∧ B < w'.heap.size ∧ w.heap.size ≤ g ∧ g < B) ∧
      w'.cell? ⟨B, 0, none⟩ = some (.slice (some ⟨g, 0, none⟩) r.length c1) ∧ Spans w' (some ⟨g, 0, none⟩) r.length r ∧ Below w.heap.size w w' := by
  have HN := Lib.hid (Norm_any A n c l w h hw (by omega))
  have HR := Lib.hid hr
  clear h hr
  go_enter Tryz.func243, Tryz.ntmps243
  go_wp2_with fail
  refine HN.out.mono ?_
  rintro e w1 ⟨r', ho, hr', hrl⟩
  obtain rfl : r' = r := Rep.unique hr' HR.out (fun _ => Iff.rfl)
  obtain ⟨g1, c1, rfl, hg1, hc1, hm1, hrow1, hb1⟩ := ho.shape
  have hlt1 := (hrow1.lt g1 rfl).2
  have HRow1 := Lib.hid hrow1
  have HB1 := Lib.hid hb1
  clear ho hrow1 hb1 hr' HN
  go_wp2_with fail
  go_ret
  have hs1 : Spans w1 (some ⟨g1, 0, none⟩) r'.length r' := Sl.of_own HRow1.out
  refine ⟨w1.heap.size, g1, c1, rfl, ⟨HB1.out.size, by simp, hg1, hlt1⟩, ?_, hs1.alloc _, HB1.out.alloc HB1.out.size _⟩
  have hb := heap_alloc_new w1 (.cells #[.slice (some ⟨g1, 0, none⟩) r'.length c1] 103)
  simp only [World.cell?, hb]
  rfl

theorem numsOf_take (x1 x2 : Int) (m : Nat) (hm : (m : Int) < x2 - x1 + 1) : (List.range (m + 1)).map (fun i : Nat => x1 + (i : Int)) = (List.range m).map (fun i : Nat => x1 + (i : Int)) ++ [x1 + (m : Int)] := by
  rw [List.range_succ, List.map_append]; rfl
theorem nums_done (r : List Sp) (k : Nat) (x1 x2 : Int) (h : r[k]? = some (x1, x2)) (m : Nat) (hm : (m : Int) = x2 - x1 + 1) : nums (r.take k) ++ (List.range m).map (fun i : Nat => x1 + (i : Int)) = nums (r.take (k + 1)) := by
  rw [take_snoc? h, nums_append]
  congr 1
  have e : m = (x2 - x1 + 1).toNat := by omega
  subst e
  simp [nums, numsOf]
theorem nums_part (r : List Sp) (k : Nat) (x1 x2 : Int) (h : r[k]? = some (x1, x2)) (m : Nat) (hm : (m : Int) ≤ x2 - x1 + 1) : nums (r.take k) ++ (List.range m).map (fun i : Nat => x1 + (i : Int)) <+: nums r := by
  have e : r = r.take k ++ (x1, x2) :: r.drop (k + 1) := by rw [← drop_cons? h, List.take_append_drop]
  have e2 : nums r = nums (r.take k) ++ (numsOf (x1, x2) ++ nums (r.drop (k + 1))) := by
    have := congrArg nums e
    rw [nums_append, nums_cons] at this
    exact this
  rw [e2]
  refine (List.prefix_append_right_inj _).2 (List.IsPrefix.trans ?_ (List.prefix_append _ _))
  unfold numsOf
  exact List.IsPrefix.map _ ⟨List.range' m ((x2 - x1 + 1).toNat - m), by rw [List.range_eq_range', List.range_eq_range']; have := List.range'_append_1 (s := 0) (m := m) (n := (x2 - x1 + 1).toNat - m); rw [Nat.zero_add] at this; rw [this]; congr 1; omega⟩

set_option maxRecDepth 100000 in
set_option maxHeartbeats 8000000 in
/-- the iterator: for every body that keeps whatever is not its own, the numbers, rising -/
theorem each_in (F : Fence) (n : Nat) (hF : F.fn 249) (hro : F.round = none) (hn : 1 ≤ n) (l B0 B g c : Nat) (O : World → Nat → Prop) (hO : OnB B0 O) (r : List Sp) (hp : Plain r) (J Jx : List Int → World → Prop)
    (hY : ∀ pre x W, J pre W → pre ++ [x] <+: nums r → YieldAt F (n - 1) Tryz.prog l #[.int .i64 x] W fun e W' =>
      (e = .returned (.bool true) ∧ J (pre ++ [x]) W' ∧ KpO O W W') ∨ (e = .returned (.bool false) ∧ Jx (pre ++ [x]) W'))
    (W : World) (hJ : AbidesFrom W.heap.size J) (hBu : B0 ≤ W.heap.size) (hwf : ∀ k, O W k → k < W.heap.size) (hog : ¬ O W g) (hgW : g < W.heap.size)
    (hB : W.cell? ⟨B, 0, none⟩ = some (.slice (some ⟨g, 0, none⟩) r.length c)) (hS : Spans W (some ⟨g, 0, none⟩) r.length r) (h0 : J [] W) :
    CallsIn F n Tryz.prog 249 #[.func (.yield l) #[] #[], .pointer (some ⟨B, 0, none⟩)] W fun e W' => (∃ v, e = .returned v) ∧ ((∃ ys, ys = nums r ∧ J ys W') ∨ (∃ pre, pre <+: nums r ∧ Jx pre W')) := by
  have hlb := hp.len_le
  have HS := Lib.hid hS
  have HWF := Lib.hid hwf
  have HP := Lib.hid hp
  have HY := Lib.hid hY
  have HJ := Lib.hid hJ
  clear hS hwf hp hY hJ
  refine callsIn_of_wp Tryz.func249 rfl hF ?_ hro
  simp only [Tryz.ntmps249, List.size_toArray, List.length_cons, List.length_nil, Nat.reduceAdd, Nat.reduceSub, Array.replicate_succ, Array.replicate_zero, List.push_toArray, List.append_toArray, List.nil_append, List.cons_append]
  gi_wp2
  gi_loopw [4, 5, 8] (fun _ _ i wr => ∃ k : Nat, k ≤ r.length ∧ i = .int .i64 k ∧ J (nums (r.take k)) wr ∧ W.heap.size ≤ wr.heap.size ∧ Hid ((∀ j, O wr j → j < wr.heap.size) ∧ ¬ O wr g ∧ Spans wr (some ⟨g, 0, none⟩) r.length r)) (fun _ _ i _ => r.length - (intOf i).toNat)
  case atStart => exact ⟨0, Nat.zero_le _, rfl, h0, Nat.le_refl _, Lib.hid ⟨HWF.out, hog, HS.out⟩⟩
  case round =>
  obtain ⟨wq, rfl⟩ : ∃ wq : World, wq = wr := ⟨_, rfl⟩
  obtain ⟨k, hk, rfl, hJs, hsz, HH⟩ := hrel
  by_cases hlt : k < r.length
  · obtain ⟨x, hx⟩ : ∃ x, r[k]? = some x := ⟨_, List.getElem?_eq_getElem hlt⟩
    have hxb := PlainF.spw HP.out (Int.le_refl _) x (List.mem_of_getElem? hx)
    have hcs := (HH.out.2.2).at_ hlt
    obtain ⟨bb, off, p, hbo, hp2, hc1, hc2⟩ := hcs
    obtain rfl : p = x := by rw [hx] at hp2; exact (Option.some.inj hp2).symm
    obtain ⟨x1, x2⟩ := p
    simp only at hxb hc1 hc2
    have hbo2 : bb = g ∧ off = 0 := by injection hbo with e; injection e with e1 e2; exact ⟨e1.symm, e2.symm⟩
    obtain ⟨rfl, rfl⟩ := hbo2
    simp only [Nat.zero_add] at hc1 hc2
    have HX := Lib.hid hx
    have hgw := lt_of_cell hc1
    have hJ2 := HJ.out _ _ _ none hJs (World.grownBy_alloc wq (.cells #[.int .i64 x1, .int .i64 x2] 129) none) (fun r e => by cases e)
    clear hx hp2 hbo hJs
    obtain ⟨wo, hwo⟩ : ∃ wo : World, wq.alloc (.cells #[.int .i64 x1, .int .i64 x2] 129) = wo := ⟨_, rfl⟩
    have hbx : wo.cell? ⟨wq.heap.size, 1, none⟩ = some (.int .i64 x2) := by
      have hb := heap_alloc_new wq (.cells #[.int .i64 x1, .int .i64 x2] 129)
      rw [← hwo]; simp only [World.cell?, hb]; rfl
    have HI : Hid ((∀ j, O wo j → j < wo.heap.size) ∧ ¬ O wo bb ∧ Spans wo (some ⟨bb, 0, none⟩) r.length r ∧ ¬ O wo wq.heap.size) := by
      have hsame : ∀ j, O wo j ↔ O wq j := fun j => hO _ _ (fun k hk => by rw [← hwo]; exact Below.heap_alloc _ _ _ (by omega)) j
      refine ⟨fun j hj => ?_, fun h => HH.out.2.1 ((hsame _).1 h), hwo ▸ HH.out.2.2.alloc _, fun h => ?_⟩
      · have := HH.out.1 j ((hsame j).1 hj); rw [← hwo]; simp; omega
      · have := HH.out.1 _ ((hsame _).1 h); omega
    have hso : wo.heap.size = wq.heap.size + 1 := by rw [← hwo]; simp
    rw [hwo] at hJ2
    have HWO := Lib.hid hwo
    clear hwo
    gi_wp2
    rw [HWO.out]
    gi_loopw [5] (fun i wr => ∃ m : Nat, (m : Int) ≤ x2 - x1 + 1 ∧ i = .int .i64 (x1 + m) ∧ J (nums (r.take k) ++ (List.range m).map (fun i : Nat => x1 + (i : Int))) wr ∧ wo.heap.size ≤ wr.heap.size ∧ wr.cell? ⟨wq.heap.size, 1, none⟩ = some (.int .i64 x2) ∧ Hid ((∀ j, O wr j → j < wr.heap.size) ∧ ¬ O wr bb ∧ Spans wr (some ⟨bb, 0, none⟩) r.length r ∧ ¬ O wr wq.heap.size)) (fun i _ => (x2 + 1 - intOf i).toNat)
    case atStart => exact ⟨0, by omega, by simp, by simpa using hJ2, Nat.le_refl _, hbx, HI⟩
    case round =>
    obtain ⟨m, hm, rfl, hJm, hsi, hbi, HM⟩ := hrel
    by_cases hlt2 : x1 + (m : Int) ≤ x2
    · have hst := numsOf_take x1 x2 m (by omega)
      have hpre := nums_part r k x1 x2 HX.out (m + 1) (by omega)
      rw [hst, ← List.append_assoc] at hpre
      have HST := Lib.hid hst
      have HPRE := Lib.hid hpre
      obtain ⟨fn, tmps, assign, body, hy, hR⟩ := HY.out _ (x1 + (m : Int)) wr hJm (by simpa using hpre)
      clear hst hpre
      gi_wp2
      refine hR.mono ?_
      rintro e W3 (⟨rfl, hJ3, hk3⟩ | ⟨rfl, hJx3⟩)
      · have hbw := Nat.lt_of_lt_of_le hgw (Nat.le_trans (by omega : wq.heap.size ≤ wo.heap.size) hsi)
        have hbx3 := hk3.cell ⟨wq.heap.size, 1, none⟩ _ hbi HM.out.2.2.2
        have HM3 : Hid ((∀ j, O W3 j → j < W3.heap.size) ∧ ¬ O W3 bb ∧ Spans W3 (some ⟨bb, 0, none⟩) r.length r ∧ ¬ O W3 wq.heap.size) := by
          refine ⟨hk3.wf HM.out.1, fun h => ?_, ⟨HM.out.2.2.1.1, fun h => ?_⟩, fun h => ?_⟩
          · rcases hk3.own _ h with h1 | h1
            · exact HM.out.2.1 h1
            · omega
          · obtain ⟨b, o, he, hc⟩ := HM.out.2.2.1.2 h
            refine ⟨b, o, he, fun j u hu => hk3.cell _ _ (hc j u hu) ?_⟩
            have e1 : bb = b := by injection he with e; injection e
            rw [← e1]; exact HM.out.2.1
          · rcases hk3.own _ h with h1 | h1
            · exact HM.out.2.2.2 h1
            · omega
        have hs3 := hk3.size
        clear hk3
        gi_wp2
        go_roundw
        case rel => exact ⟨m + 1, by omega, by go_num, by rw [HST.out, ← List.append_assoc]; exact hJ3, by omega, hbx3, HM3⟩
        case measure => simp [intOf]; omega
      · gi_wp2
        refine bodyPost_ret (results_none rfl _ _ _) rfl ?_
        exact ⟨⟨_, rfl⟩, .inr ⟨_, HPRE.out, hJx3⟩⟩
    · obtain hme : (m : Int) = x2 - x1 + 1 := by omega
      have HN := Lib.hid (nums_done r k x1 x2 HX.out m hme)
      clear hme
      gi_wp2
      refine ⟨⟨k + 1, by omega, by go_num, by rw [← HN.out]; exact hJm, by omega, Lib.hid ⟨HM.out.1, HM.out.2.1, HM.out.2.2.1⟩⟩, by simp [intOf]; omega⟩
  · have hd : decide (k < r.length) = false := by simpa using hlt
    obtain rfl : k = r.length := by omega
    gi_wp2
    go_end0
    exact ⟨⟨_, rfl⟩, .inl ⟨_, by rw [List.take_length], hJs⟩⟩

theorem each_stopsO (F : Fence) (n : Nat) (hF : F.fn 249) (hro : F.round = none) (hn : 1 ≤ n) (B0 B g c : Nat) (O : World → Nat → Prop) (hO : OnB B0 O) (r : List Sp) (hp : Plain r) (w : World) (hBu : B0 ≤ w.heap.size) (hwf : ∀ k, O w k → k < w.heap.size) (hog : ¬ O w g)
    (hB : w.cell? ⟨B, 0, none⟩ = some (.slice (some ⟨g, 0, none⟩) r.length c)) (hg : g < w.heap.size) (hS : Spans w (some ⟨g, 0, none⟩) r.length r) :
    SeqStopsK F n Tryz.prog 249 #[.pointer (some ⟨B, 0, none⟩)] (fun x : Int => #[Value.int .i64 x]) (KpO O) (fun ys => ys = nums r) (fun pre => pre <+: nums r) (nums r).length w := fun l J Jx W hW hJ _ hY h0 => by
  have hs : ∀ j, O W j ↔ O w j := hO _ _ fun k hk => hW.block k (by omega)
  exact each_in F n hF hro hn l B0 B g c O hO r hp J Jx (fun pre x W hJ hpx => hY pre x W hJ (by have := hpx.length_le; rw [List.length_append] at this; simp at this; omega)) W hJ (Nat.le_trans hBu hW.size) (fun k hk => Nat.lt_of_lt_of_le (hwf k ((hs k).1 hk)) hW.size) (fun h => hog ((hs g).1 h)) (Nat.lt_of_lt_of_le hg hW.size)
    ((hW.cell (lt_of_cell hB)).trans hB) (hS.below hW) h0
theorem each_stops (F : Fence) (n : Nat) (hF : F.fn 249) (hro : F.round = none) (hn : 1 ≤ n) (lo hi Bu B g c : Nat) (r : List Sp) (hp : Plain r) (w : World) (hBu : Bu < w.heap.size) (hwf : ∀ k, OwnB lo hi Bu w k → k < w.heap.size) (hog : ¬ OwnB lo hi Bu w g)
    (hB : w.cell? ⟨B, 0, none⟩ = some (.slice (some ⟨g, 0, none⟩) r.length c)) (hg : g < w.heap.size) (hS : Spans w (some ⟨g, 0, none⟩) r.length r) :
    SeqStopsK F n Tryz.prog 249 #[.pointer (some ⟨B, 0, none⟩)] (fun x : Int => #[Value.int .i64 x]) (KpB lo hi Bu) (fun ys => ys = nums r) (fun pre => pre <+: nums r) (nums r).length w :=
  each_stopsO F n hF hro hn w.heap.size B g c (OwnB lo hi Bu) (ownB_on hBu) r hp w (Nat.le_refl _) hwf hog hB hg hS
end Go.Proofs.YtlmkokeapbleoaaGreat
end
section
namespace Go.Proofs.YtlmkokeapbleoaaGreat
open Go.RowKit Go.Shelf
set_option linter.unusedVariables false
attribute [local go_sem] Oper.semAt_some

def noDefer (o : Oper) : Bool := match o.op with | .defer _ => false | _ => true
theorem noDefer.spec {o : Oper} (h : noDefer o = true) : ∀ c, o.op ≠ .defer c := by
  intro c e
  unfold noDefer at h
  rw [e] at h
  cases h
theorem rows_in {P : Program} {row : String} {args : Array Value} {w : World} {R : Value → World → Prop} (l n : Nat) (h : Rows P row args w R) : RowsIn (Fence.wide.inRound l) n P row args w R :=
  fun c cs _ => let ⟨v, w', r, s⟩ := h c cs; ⟨v, w', r, stepsIn_wide.2 s⟩
theorem oper_round {P : Program} {o : Oper} {a : Act} {w : World} {K : Act → World → Prop} {Q : Exit → Act → World → Prop} (l n : Nat) (hnd : ∀ c, o.op ≠ .defer c) (h : o.wp P a w K Q) :
    o.wpIn (Fence.wide.inRound l) n P a w K Q := by
  refine ⟨fun f _ => trivial, ?_⟩
  rw [show (Fence.wide.inRound l).round = some l from rfl, Oper.semAt_some l _ _ hnd]
  unfold Oper.wp at h
  generalize (execOp a.eval o).run P w = r at *
  cases r with
  | ok x w' =>
    cases x <;> simp only [Oper.upon, Oper.uponIn] at h ⊢
    all_goals first
      | exact h
      | exact CallsIn.inRound l (callsIn_wide.2 h)
      | exact rows_in l _ h
      | (refine ⟨?_, CallsIn.inRound l (callsIn_wide.2 h)⟩; simp [Fence.wide])
      | (refine ⟨?_, rows_in l _ h⟩; simp [Fence.wide])
  | halt x w' => cases x <;> simp only [Oper.upon, Oper.uponIn] at h ⊢ <;> exact h
theorem ops_round {P : Program} {ops : Array Oper} {Q : Exit → Act → World → Prop} (l n : Nat) (hnd : ops.all noDefer = true) (hQ : ∀ a w, ¬ Q .outgrown a w) (L : List Nat) :
    ∀ (a : Act) (w : World), wpOps P ops Q L a w → wpOpsIn (Fence.wide.inRound l) n P ops Q L a w := by
  induction L with
  | nil => exact fun a w h => h
  | cons i L ih =>
    intro a w h
    simp only [wpOps] at h
    simp only [wpOpsIn]
    cases ho : ops[i]? with
    | none => rw [ho] at h; exact ih _ _ h
    | some o =>
      rw [ho] at h
      simp only at h ⊢
      have hd : noDefer o = true := by
        obtain ⟨hi, he⟩ := Array.getElem?_eq_some_iff.1 ho
        exact he ▸ (Array.all_eq_true.1 hnd) i hi
      split at h
      · rename_i hw
        rw [if_pos hw]
        rcases h with h | ⟨_, a', w', h⟩
        · exact Oper.wpIn_mono (fun a w => ih a w) (oper_round l n (noDefer.spec hd) h)
        · exact absurd h (hQ a' w')
      · rename_i hw
        rw [if_neg hw]
        exact ⟨fun f _ => trivial, ih _ _ h⟩
theorem region_round {P : Program} {id : Nat} {ops : Array Oper} {Q : Exit → Act → World → Prop} {a : Act} {w : World} {l n : Nat} (hnd : ops.all noDefer = true) (hQ : ∀ a w, ¬ Q .outgrown a w) (hm : P.follows .mixedOrders = true)
    (h : wpAny P .any ops Q ops.size (Array.replicate ops.size false) a { w with drawn := w.drawn + 1 }) : (Code.region id ops true).wpIn (Fence.wide.inRound l) n P Q a w :=
  wpIn_region_draw fun t => by
    simp only [Region.schedule, hm, Bool.true_or, if_true]
    exact ops_round l n hnd hQ _ _ _ (wpAny_sound ops.size t _ a _ h)
theorem region_round_held {P : Program} {id : Nat} {ops : Array Oper} {Q : Exit → Act → World → Prop} {a : Act} {w : World} {l n : Nat} (hnd : ops.all noDefer = true) (hQ : ∀ a w, ¬ Q .outgrown a w) (hm : P.follows .mixedOrders = true)
    (S : World → Prop) (hS : S w.drew) (h : S w.drew → wpAnyH P .any ops Q S ops.size (Array.replicate ops.size false) a w.drew) : (Code.region id ops true).wpIn (Fence.wide.inRound l) n P Q a w :=
  region_round hnd hQ hm (wpAny_of_held _ _ _ _ (h hS))
/-- a range over a function, outside of any fence -/
theorem wp_rangeFunc {P : Program} {α : Type} {g : Operand} {ps : Array Tmp} {assign body : Code} {Q : Exit → Act → World → Prop} {a : Act} {w : World}
    {gf : Nat} {lb : Array Value} (hg : a.eval g = .func (.func gf) #[] lb) (eg : ∀ args w, (callFunc gf args).run P w = .ok (.enter gf args) w)
    {encs : α → Array Value} {Kp : World → World → Prop} {S Sp : List α → Prop} {N : Nat} (hseq : SeqStopsK Fence.wide 7 P gf lb encs Kp S Sp N w)
    (hKt : ∀ {A B C : World}, Kp A B → Kp B C → Kp A C) (hKb : ∀ (W : World) (l : Nat) (o o' : Obj), w.heap.size ≤ l → W.heap[l]? = some o → o.isCells = false → o.isWalk = false → Kp W (W.putObj l o')) (hps : ∀ x, (encs x).size = ps.size)
    (I : List α → World → Prop) (Ix : Code → List α → World → Prop) (hI : OwnFrom w.heap.size I) (hIx : ∀ c, OwnFrom w.heap.size (Ix c)) (h0 : I [] w) (a₁ : α → Act)
    (hassign : ∀ (l : Nat) (x : α) (W : World) (K : Act → World → Prop), K (a₁ x) W →
      assign.wpIn (Fence.wide.inRound l) 6 P (Exit.then K (fun _ _ _ => False)) { tmps := (ps.zip (encs x)).foldl (fun t (p, v) => t.setIfInBounds p v) a.tmps, defers := [] } W)
    (hbody : ∀ (l : Nat) (pre : List α) (x : α) (W : World), I pre W → pre.length < N → body.wpIn (Fence.wide.inRound l) 6 P (ownPostK Kp I Ix (pre ++ [x]) W) (a₁ x) W)
    (hdone : ∀ (D : Nat) (xs : List α) (W : World), w.heap.size ≤ D → S xs → I xs W → W.heap[D]? = some (.deferred (some [])) → Q .normal { a with defers := { target := .collected D, args := #[] } :: a.defers } W)
    (hstop : ∀ (D : Nat) (c : Code) (pre : List α) (W : World), w.heap.size ≤ D → Sp pre → Ix c pre W → W.heap[D]? = some (.deferred (some [])) → c.wp P Q { a with defers := { target := .collected D, args := #[] } :: a.defers } W) :
    (Code.rangeFunc g ps assign body).wp P Q a w :=
  (wpIn_wide (n := 8)).1 (wpIn_rangeFunc_ownF (F := Fence.wide) rfl (by omega) hg trivial eg hseq hKt hKb (Below.refl _ _) hps I Ix hI hIx h0 a₁ hassign hbody hdone
    (fun D c pre W h1 h2 h3 h4 => (wpIn_wide (n := 8)).2 (hstop D c pre W h1 h2 h3 h4)))

theorem cellAlloc {w : World} (o : Obj) {p : Addr} {v : Value} (h : w.cell? p = some v) : (w.alloc o).cell? p = some v := (World.cell?_alloc_lt w o p (World.block_lt_of_cell? w p h)).trans h
/-- what a body does to the row that its box holds -/
theorem KpB.pushed {lo hi Bu : Nat} {W w0 W3 : World} {A A' : Option Addr} {n c n' c' base : Nat} {xs ys : List Value} (h1 : lo ≤ Bu) (h2 : Bu < hi) (hv : W.cell? ⟨Bu, 0, none⟩ = some (.slice A n c))
    (hb : Below W.heap.size W w0) (ho0 : w0.ownsRow base 129 2 (.slice A n c) n ys) (hg : w0.grownBy W3 (Value.ownBlock (.slice A n c)))
    (hat : Value.ownBlock (.slice A' n' c') = Value.ownBlock (.slice A n c) ∨ Value.ownBlock (.slice A' n' c') = some w0.heap.size)
    (ho : W3.ownsRow base 129 2 (.slice A' n' c') n' xs) (hbase : hi ≤ base) :
    KpB lo hi Bu W (W3.setCell ⟨Bu, 0, none⟩ (.slice A' n' c')) ∧ (W3.setCell ⟨Bu, 0, none⟩ (.slice A' n' c')).cell? ⟨Bu, 0, none⟩ = some (.slice A' n' c') ∧ (W3.setCell ⟨Bu, 0, none⟩ (.slice A' n' c')).ownsRow base 129 2 (.slice A' n' c') n' xs := by
  have hBu := lt_of_cell hv
  have hs1 := hb.size
  have hs2 := hg.size
  have hne : some Bu ≠ Value.ownBlock (.slice A n c) := fun e => by have := ho0.lt Bu e.symm; omega
  have hcB : W3.cell? ⟨Bu, 0, none⟩ = some (.slice A n c) := (World.cell?_of_block (hg.block Bu (by omega) hne)).trans ((hb.cell (p := ⟨Bu, 0, none⟩) hBu).trans hv)
  have hc4 : (W3.setCell ⟨Bu, 0, none⟩ (.slice A' n' c')).cell? ⟨Bu, 0, none⟩ = some (.slice A' n' c') := World.cell?_setCell_same' _ _ _ (by rw [hcB]; rfl)
  have hsz : (W3.setCell ⟨Bu, 0, none⟩ (.slice A' n' c')).heap.size = W3.heap.size := by simp
  have key : ∀ k, OwnB lo hi Bu (W3.setCell ⟨Bu, 0, none⟩ (.slice A' n' c')) k → OwnB lo hi Bu W k ∨ (k = w0.heap.size ∧ k < W3.heap.size) := by
    rintro k (h | ⟨off, m, d, h⟩)
    · exact .inl (.inl h)
    · rw [hc4] at h
      injection h with h
      injection h with e1 e2 e3
      subst e1
      have hlt := (ho.lt k rfl).2
      rcases hat with h | h
      · left; right
        rcases ho0.2 with ⟨e, _⟩ | ⟨g, cap, cur, e, _⟩
        · injection e with e1; subst e1; simp [Value.ownBlock] at h
        · injection e with e1 e4 e5
          subst e1
          simp [Value.ownBlock] at h
          subst h
          exact ⟨0, n, c, hv⟩
      · right
        simp [Value.ownBlock] at h
        exact ⟨h, hlt⟩
  refine ⟨⟨by rw [hsz]; omega, fun p u hu hno => ?_, fun k hk => ?_, fun hw k hk => ?_⟩, hc4, ?_⟩
  · have hp := World.block_lt_of_cell? W p hu
    have hpB : Bu ≠ p.block := fun e => hno (.inl (by omega))
    have hpo : some p.block ≠ Value.ownBlock (.slice A n c) := by
      intro e
      refine hno (.inr ?_)
      rcases ho0.2 with ⟨e', _⟩ | ⟨g, cap, cur, e', _⟩
      · injection e' with e1; subst e1; simp [Value.ownBlock] at e
      · injection e' with e1 e4 e5
        subst e1
        simp [Value.ownBlock] at e
        rw [e]
        exact ⟨0, n, c, hv⟩
    rw [World.cell?_setCell_far _ _ _ _ hpB]
    exact hg.cell ((hb.cell hp).trans hu) hpo
  · rcases key k hk with h | h
    · exact .inl h
    · right; omega
  · rw [hsz]
    rcases key k hk with h | h
    · have := hw k h; omega
    · exact h.2
  · exact ownsRow_setCell_below ho (a := ⟨Bu, 0, none⟩) (by show Bu < base; omega) _
end Go.Proofs.YtlmkokeapbleoaaGreat
end
section
namespace Go.Proofs.YtlmkokeapbleoaaGreat
open Go.RowKit Go.Shelf
set_option linter.unusedVariables false

/-- the row that a slice owns, as a list -/
def SRow (w : World) (base : Nat) (A : Option Addr) (c : Nat) (l : List Sp) : Prop := w.ownsRow base 129 2 (.slice A l.length c) l.length (spanCells l)
theorem SRow.start (w : World) (base : Nat) : SRow w base none 0 [] := World.ownsRow_nil _ _ _ _
theorem SRow.spans {w : World} {base : Nat} {A : Option Addr} {c : Nat} {l : List Sp} (h : SRow w base A c l) : Spans w A l.length l := Sl.of_own h
theorem SRow.alloc {w : World} {base : Nat} {A : Option Addr} {c : Nat} {l : List Sp} (h : SRow w base A c l) (o : Obj) : SRow (w.alloc o) base A c l := World.ownsRow.alloc h o
theorem SRow.drewN {w : World} {base : Nat} {A : Option Addr} {c : Nat} {l : List Sp} (h : SRow w base A c l) (q : Nat) : SRow (w.drewN q) base A c l := h
theorem SRow.drew {w : World} {base : Nat} {A : Option Addr} {c : Nat} {l : List Sp} (h : SRow w base A c l) : SRow w.drew base A c l := h
theorem SRow.pushed {B : Nat} {W w0 w' : World} {o : Obj} {base : Nat} {A : Option Addr} {c : Nat} {l : List Sp} (hb : Below B W w0) (hown : SRow w0 base A c l) (hB : B ≤ base) (hB' : B ≤ w0.heap.size)
    (hg : (w0.alloc o).grownBy w' (Value.ownBlock (.slice A l.length c))) : Below B W w' := below_pushed hb hown hB hB' hg
theorem SRow.lit (w : World) (base : Nat) (p1 p2 : Int) (h : base ≤ w.heap.size) : SRow (w.alloc (.cells #[.int .i64 p1, .int .i64 p2] 129)) base (some ⟨w.heap.size, 0, none⟩) 1 [(p1, p2)] :=
  ⟨rfl, .inr ⟨w.heap.size, 1, _, rfl, h, heap_alloc_new w _, Nat.le_refl _, by unfold maxLen; omega, rfl, rfl⟩⟩
theorem SRow.lit' {w : World} {base B : Nat} {p1 p2 : Int} (hB : B = w.heap.size) (h : base ≤ w.heap.size) : SRow (w.alloc (.cells #[.int .i64 p1, .int .i64 p2] 129)) base (some ⟨B, 0, none⟩) 1 [(p1, p2)] := by
  subst hB; exact SRow.lit w base p1 p2 h
section
variable {w0 : World} {ops : Array Oper} {rest : List Oper} {o : Oper} {a : Act} {Q : Exit → Act → World → Prop} {base : Nat} {A : Option Addr} {c : Nat} {l : List Sp}
theorem wpList_pushS (hgd : o.guard = none) (s x : Operand) (ho : o.op = .call { callee := .builtin .append, args := #[s, x], argTypes := #[103, 103] })
    (hown : SRow w0 base A c l) (hs : a.eval s = .slice A l.length c) {p1 p2 : Int} (hx : a.eval x = .slice (some ⟨w0.heap.size, 0, none⟩) 1 1) (hn : l.length < 1099511627776) (hbase : base ≤ w0.heap.size)
    (h : ∀ (l' : List Sp) A' c' w', Hid (l' = l ++ [(p1, p2)]) → Hid (SRow w' base A' c' l') → Hid ((w0.alloc (.cells #[.int .i64 p1, .int .i64 p2] 129)).grownBy w' (Value.ownBlock (.slice A l.length c))) →
      Hid (Value.ownBlock (.slice A' l'.length c') = Value.ownBlock (.slice A l.length c) ∨ Value.ownBlock (.slice A' l'.length c') = some (w0.heap.size + 1)) → wpList Tryz.prog ops Q rest (a.put o.dst (.slice A' l'.length c')) w') :
    wpList Tryz.prog ops Q (o :: rest) a (w0.alloc (.cells #[.int .i64 p1, .int .i64 p2] 129)) := by
  obtain ⟨i0, hi, hz0, hz1, hz2⟩ := info_parts info59
  have hs0 : (w0.alloc (.cells #[.int .i64 p1, .int .i64 p2] 129)).heap.size = w0.heap.size + 1 := by simp
  refine wpList_append_own_at _ hgd s x 103 ho base 129 i0 _ 2 16 Tryz.underlying103 hi hz0 hz1 hz2 rfl (by decide) _ l.length (spanCells l) hs (hown.alloc _) ⟨w0.heap.size, 0, none⟩ 1 1 [.int .i64 p1, .int .i64 p2] hx rfl ?_ (one2 rfl rfl)
    (by unfold maxLen; omega) (by omega) (by rw [hs0]; omega) ?_
  · exact World.news_of_block (cs := #[.int .i64 p1, .int .i64 p2]) (t := 129) (fr := (0, 0)) (heap_alloc_new w0 _)
  · intro v' w' hown' hg _ hat
    obtain ⟨A', c', rfl⟩ := own_shape hown'
    have e : (l ++ [(p1, p2)]).length = l.length + 1 := by simp
    rw [hs0] at hat
    rw [← e] at hown' hat ⊢
    exact h _ A' c' w' rfl (by unfold Hid SRow; rw [spanCells_append]; exact hown') hg hat
theorem wpList_pushS2 (hgd : o.guard = none) (s x : Operand) (ho : o.op = .call { callee := .builtin .append, args := #[s, x], argTypes := #[103, 103] })
    (hown : SRow w0 base A c l) (hs : a.eval s = .slice A l.length c) {p1 p2 q1 q2 : Int} (hx : a.eval x = .slice (some ⟨w0.heap.size, 0, none⟩) 2 2) (hn : l.length < 1099511627776) (hbase : base ≤ w0.heap.size)
    (h : ∀ (l' : List Sp) A' c' w', Hid (l' = l ++ [(p1, p2), (q1, q2)]) → Hid (SRow w' base A' c' l') → Hid ((w0.alloc (.cells #[.int .i64 p1, .int .i64 p2, .int .i64 q1, .int .i64 q2] 129)).grownBy w' (Value.ownBlock (.slice A l.length c))) →
      Hid (Value.ownBlock (.slice A' l'.length c') = Value.ownBlock (.slice A l.length c) ∨ Value.ownBlock (.slice A' l'.length c') = some (w0.heap.size + 1)) → wpList Tryz.prog ops Q rest (a.put o.dst (.slice A' l'.length c')) w') :
    wpList Tryz.prog ops Q (o :: rest) a (w0.alloc (.cells #[.int .i64 p1, .int .i64 p2, .int .i64 q1, .int .i64 q2] 129)) := by
  obtain ⟨i0, hi, hz0, hz1, hz2⟩ := info_parts info59
  have hs0 : (w0.alloc (.cells #[.int .i64 p1, .int .i64 p2, .int .i64 q1, .int .i64 q2] 129)).heap.size = w0.heap.size + 1 := by simp
  refine wpList_append_own_at _ hgd s x 103 ho base 129 i0 _ 2 16 Tryz.underlying103 hi hz0 hz1 hz2 rfl (by decide) _ l.length (spanCells l) hs (hown.alloc _) ⟨w0.heap.size, 0, none⟩ 2 2 [.int .i64 p1, .int .i64 p2, .int .i64 q1, .int .i64 q2] hx rfl ?_ (by intro u hu; simp at hu; rcases hu with rfl | rfl | rfl | rfl <;> rfl)
    (by unfold maxLen; omega) (by omega) (by rw [hs0]; omega) ?_
  · exact World.news_of_block (cs := #[.int .i64 p1, .int .i64 p2, .int .i64 q1, .int .i64 q2]) (t := 129) (fr := (0, 0)) (heap_alloc_new w0 _)
  · intro v' w' hown' hg _ hat
    obtain ⟨A', c', rfl⟩ := own_shape hown'
    have e : (l ++ [(p1, p2), (q1, q2)]).length = l.length + 2 := by simp
    rw [hs0] at hat
    rw [← e] at hown' hat ⊢
    exact h _ A' c' w' rfl (by unfold Hid SRow; rw [spanCells_append]; exact hown') hg hat
/-- the append alone, as a step of a region -/
theorem wp_pushS (hgd : o.guard = none) (s x : Operand) (ho : o.op = .call { callee := .builtin .append, args := #[s, x], argTypes := #[103, 103] })
    (hown : SRow w0 base A c l) (hs : a.eval s = .slice A l.length c) {p1 p2 : Int} (hx : a.eval x = .slice (some ⟨w0.heap.size, 0, none⟩) 1 1) (hn : l.length < 1099511627776) (hbase : base ≤ w0.heap.size) {K : Act → World → Prop}
    (h : ∀ (l' : List Sp) A' c' w', Hid (l' = l ++ [(p1, p2)]) → Hid (SRow w' base A' c' l') → Hid ((w0.alloc (.cells #[.int .i64 p1, .int .i64 p2] 129)).grownBy w' (Value.ownBlock (.slice A l.length c))) →
      Hid (Value.ownBlock (.slice A' l'.length c') = Value.ownBlock (.slice A l.length c) ∨ Value.ownBlock (.slice A' l'.length c') = some (w0.heap.size + 1)) → K (a.put o.dst (.slice A' l'.length c')) w') :
    o.wp Tryz.prog a (w0.alloc (.cells #[.int .i64 p1, .int .i64 p2] 129)) K Q := by
  obtain ⟨i0, hi, hz0, hz1, hz2⟩ := info_parts info59
  have hs0 : (w0.alloc (.cells #[.int .i64 p1, .int .i64 p2] 129)).heap.size = w0.heap.size + 1 := by simp
  obtain ⟨v', w', hr, hown', hg, _, hat⟩ := run_append_own_at (P := Tryz.prog) (w0.alloc (.cells #[.int .i64 p1, .int .i64 p2] 129)) base 103 o.type 129 i0 _ 2 16 Tryz.underlying103 hi hz0 hz1 hz2 rfl (by decide) (.slice A l.length c) l.length (spanCells l) (hown.alloc _) ⟨w0.heap.size, 0, none⟩ 1 1 [.int .i64 p1, .int .i64 p2] rfl
    (World.news_of_block (cs := #[.int .i64 p1, .int .i64 p2]) (t := 129) (fr := (0, 0)) (heap_alloc_new w0 _)) (one2 rfl rfl) (by unfold maxLen; omega) (by omega) (by rw [hs0]; omega)
  unfold Oper.wp execOp
  simp only [ho, resolve, invoke, builtin, Sem.run_bind, Sem.run_pure, Result.andThen_ok, List.map_toArray, List.map_cons, List.map_nil, hs, hx, hr]
  obtain ⟨A', c', rfl⟩ := own_shape hown'
  have e : (l ++ [(p1, p2)]).length = l.length + 1 := by simp
  rw [hs0] at hat
  rw [← e] at hown' hat ⊢
  exact h _ A' c' w' rfl (by unfold Hid SRow; rw [spanCells_append]; exact hown') hg hat
end

/-- how a function leaves that holds a range over a function -/
theorem leaveM_nil {P : Program} {F : Fence} {n : Nat} {fn : Func} {tmps : Array Value} {R : Ending → World → Prop} {w : World} (v : Value) (h : (results fn tmps).run P w = .ok v w) (hR : R (.returned v) w) : LeavesInM F n P fn tmps R [] .returning w := ⟨v, h, hR⟩
theorem leaveM_mark {P : Program} {F : Fence} {n : Nat} {fn : Func} {tmps : Array Value} {R : Ending → World → Prop} {w : World} {D : Nat} (v : Value) (hD : w.heap[D]? = some (.deferred (some []))) (h : ∀ w', (results fn tmps).run P w' = .ok v w')
    (hR : R (.returned v) (w.putObj D (.deferred none))) : LeavesInM F n P fn tmps R [{ target := .collected D, args := #[] }] .returning w :=
  ⟨by simp, .inl ⟨_, _, rfl, run_takeDeferred hD, v, h _, hR⟩⟩
theorem St.mark {w0 w1 w : World} {F : World → Prop} {A : Option Addr} {r : List Sp} {D : Nat} (h : St w0 w1 F) (hb : Below w1.heap.size w1 w) (hL : Lst A r w) (hD : w1.heap.size ≤ D) (hK : w.heap[D]? = some (.deferred (some []))) :
    St w0 (w.putObj D (.deferred none)) (fun W => Lst A r W ∧ F W) := by
  have hg := grownBy_putObj' w D (.deferred none)
  have hb' : Below w1.heap.size w1 (w.putObj D (.deferred none)) := hb.grown hg hb.size (fun k e => by cases e; exact hD)
  refine h.add hb' (fun W hW => ?_)
  refine Lst.below ⟨⟨hL.sp.1, fun hn => ?_⟩, hL.wd, hL.len⟩ hW
  obtain ⟨b, off, e, hc⟩ := hL.sp.2 hn
  exact ⟨b, off, e, fun j u hu => cell_kept (hc j u hu) hg (fun r e => by cases e; exact ⟨_, hK, rfl⟩)⟩

/-- a row of spans that a box holds -/
def BoxRow (Bu base : Nat) (o : List Sp) (W : World) : Prop := ∃ A c, W.cell? ⟨Bu, 0, none⟩ = some (.slice A o.length c) ∧ W.frozen? ⟨Bu, 0, none⟩ = false ∧ SRow W base A c o
theorem BoxRow.own {β : Type} (B Bu base : Nat) (f : β → List Sp) : OwnFrom B (fun s W => BoxRow Bu base (f s) W) := by
  rintro s X Y row ⟨A, c, h1, h2, h3⟩ hg hr
  refine ⟨A, c, cell_kept h1 hg (fun r e => (hr r e).2), (frozen_kept h1 hg (fun r e => (hr r e).2)).trans h2, ?_⟩
  refine h3.kept hg ?_
  rcases hb : Value.ownBlock (.slice A (f s).length c) with _ | g
  · exact .inl rfl
  · right
    intro e
    obtain ⟨_, o, ho, hc⟩ := hr g e.symm
    rcases h3.2 with ⟨e', _⟩ | ⟨g', cap, cur, e', _, hgg, _⟩
    · rw [e'] at hb; simp [Value.ownBlock] at hb
    · rw [e'] at hb
      simp [Value.ownBlock] at hb
      subst hb
      rw [hgg] at ho
      cases ho
      cases hc
theorem BoxRow.new (w : World) (base : Nat) : BoxRow w.heap.size base [] (w.alloc (.cells #[.slice none 0 0] 103)) := by
  have hb := heap_alloc_new w (.cells #[.slice none 0 0] 103)
  refine ⟨none, 0, ?_, ?_, SRow.start _ _⟩
  · simp only [World.cell?, hb]; rfl
  · unfold World.frozen?; rw [hb]; simp
theorem BoxRow.push {lo hi Bu base : Nat} {W w0 W3 : World} {A A' : Option Addr} {c c' : Nat} {o l' : List Sp} {ob : Obj} (h1 : lo ≤ Bu) (h2 : Bu < hi) (h3 : hi ≤ base) (hv : W.cell? ⟨Bu, 0, none⟩ = some (.slice A o.length c)) (hf : W.frozen? ⟨Bu, 0, none⟩ = false)
    (ho : SRow W base A c o) (hb : Below W.heap.size W w0) (hob : ob.isCells = true) (HO : SRow W3 base A' c' l') (HG : (w0.alloc ob).grownBy W3 (Value.ownBlock (.slice A o.length c)))
    (HAT : Value.ownBlock (.slice A' l'.length c') = Value.ownBlock (.slice A o.length c) ∨ Value.ownBlock (.slice A' l'.length c') = some (w0.heap.size + 1)) :
    KeepsOthers W (W3.setCell ⟨Bu, 0, none⟩ (.slice A' l'.length c')) ∧ KpB lo hi Bu W (W3.setCell ⟨Bu, 0, none⟩ (.slice A' l'.length c')) ∧ BoxRow Bu base l' (W3.setCell ⟨Bu, 0, none⟩ (.slice A' l'.length c')) ∧
      Below lo W (W3.setCell ⟨Bu, 0, none⟩ (.slice A' l'.length c')) := by
  have hBu := lt_of_cell hv
  have hba : Below W.heap.size W (w0.alloc ob) := hb.alloc hb.size _
  have hs0 : (w0.alloc ob).heap.size = w0.heap.size + 1 := by simp
  have hrow : SRow w0 base A c o := by
    refine ⟨ho.1, ?_⟩
    rcases ho.2 with h | ⟨g, cap, cur, e, hg1, hg2, hg3⟩
    · exact .inl h
    · exact .inr ⟨g, cap, cur, e, hg1, (hb.block g (Array.getElem?_eq_some_iff.1 hg2).1).trans hg2, hg3⟩
  have hrowa : SRow (w0.alloc ob) base A c o := hrow.alloc _
  obtain ⟨k1, k2, k3⟩ := KpB.pushed (lo := lo) (hi := hi) h1 h2 hv hba hrowa HG (by rw [hs0]; exact HAT) HO h3
  have hne : some Bu ≠ Value.ownBlock (.slice A o.length c) := fun e => by have := ho.lt Bu e.symm; omega
  have hgb : ∀ k, Value.ownBlock (.slice A o.length c) = some k → lo ≤ k := fun k e => by have := ho.lt k e; omega
  refine ⟨?_, k1, ⟨A', c', k2, ?_, k3⟩, ?_⟩
  · have q1 : KeepsOthers W w0 := ⟨hb.size, fun k o hk _ => (hb.block k (Array.getElem?_eq_some_iff.1 hk).1).trans hk⟩
    refine ((q1.trans (KeepsOthers.alloc w0 ob)).trans (KeepsOthers.of_grownBy HG ?_)).trans (KeepsOthers.setCell _ _ _)
    intro j oj hj hoj
    rcases hrowa.2 with ⟨e', _⟩ | ⟨g', cap, cur, e', _, hgg, _⟩
    · rw [e'] at hj; simp [Value.ownBlock] at hj
    · rw [e'] at hj
      simp [Value.ownBlock] at hj
      subst hj
      rw [hgg] at hoj
      cases hoj
      rfl
  · rw [World.frozen?_setCell]
    exact (World.frozen?_of_block (HG.block Bu (by have := hba.size; omega) hne)).trans ((hba.frozen (p := ⟨Bu, 0, none⟩) hBu).trans hf)
  · have q2 : Below lo W (w0.alloc ob) := hba.mono (by omega)
    exact (q2.grown HG (by have := hba.size; omega) hgb).setCell (p := ⟨Bu, 0, none⟩) h1 _
theorem SRow.below {W w : World} {base : Nat} {A : Option Addr} {c : Nat} {l : List Sp} (h : SRow W base A c l) (hb : Below W.heap.size W w) : SRow w base A c l := by
  refine ⟨h.1, ?_⟩
  rcases h.2 with h | ⟨g, cap, cur, e, hg1, hg2, hg3⟩
  · exact .inl h
  · exact .inr ⟨g, cap, cur, e, hg1, (hb.block g (Array.getElem?_eq_some_iff.1 hg2).1).trans hg2, hg3⟩
end Go.Proofs.YtlmkokeapbleoaaGreat
end
section
namespace Go.Proofs.YtlmkokeapbleoaaGreat
open Go.RowKit
set_option linter.unusedVariables false

theorem div_span {D x1 x2 y : Int} (hD : 1 ≤ D) (hx : x1 ≤ x2) : (∃ x, x1 ≤ x ∧ x ≤ x2 ∧ x / D = y) ↔ (x1 / D ≤ y ∧ y ≤ x2 / D) := by
  constructor
  · rintro ⟨x, h1, h2, rfl⟩
    exact ⟨Int.ediv_le_ediv (by omega) h1, Int.ediv_le_ediv (by omega) h2⟩
  · rintro ⟨h1, h2⟩
    have h3 : y * D ≤ x2 := (Int.le_ediv_iff_mul_le (by omega)).1 h2
    by_cases h : x1 ≤ y * D
    · exact ⟨y * D, h, h3, Int.mul_ediv_cancel _ (by omega)⟩
    · have : y ≤ x1 / D := (Int.le_ediv_iff_mul_le (by omega)).2 (by omega)
      exact ⟨x1, Int.le_refl _, hx, by omega⟩
theorem res_all {T lo hi v : Int} (hT : 1 ≤ T) (h : T - 1 ≤ hi - lo) (h0 : 0 ≤ v) (h1 : v < T) : ∃ y, lo ≤ y ∧ y ≤ hi ∧ y % T = v := by
  have g0 := Int.emod_nonneg (v - lo) (b := T) (by omega)
  have g1 := Int.emod_lt_of_pos (v - lo) (b := T) (by omega)
  refine ⟨lo + (v - lo) % T, by omega, by omega, ?_⟩
  rw [Int.add_emod_emod, show lo + (v - lo) = v by omega]
  exact Int.emod_eq_of_lt h0 h1
theorem div_eq {T lo q m : Int} (h : lo = T * q + m) (h0 : 0 ≤ m) (h1 : m < T) : lo / T = q ∧ lo % T = m := by
  subst h
  have hT : T ≠ 0 := by omega
  constructor
  · rw [Int.add_comm, Int.add_mul_ediv_left _ _ hT, Int.ediv_eq_zero_of_lt h0 h1]; omega
  · rw [Int.add_comm, Int.add_mul_emod_self_left]; exact Int.emod_eq_of_lt h0 h1
theorem res_span {T lo hi v : Int} (hT : 1 ≤ T) (hl : lo ≤ hi) (h : hi - lo < T - 1) :
    (∃ y, lo ≤ y ∧ y ≤ hi ∧ y % T = v) ↔ (if lo % T ≤ hi % T then lo % T ≤ v ∧ v ≤ hi % T else (0 ≤ v ∧ v ≤ hi % T) ∨ (lo % T ≤ v ∧ v ≤ T - 1)) := by
  have a0 := Int.emod_nonneg lo (b := T) (by omega)
  have a1 := Int.emod_lt_of_pos lo (b := T) (by omega)
  have b0 := Int.emod_nonneg hi (b := T) (by omega)
  have b1 := Int.emod_lt_of_pos hi (b := T) (by omega)
  have ea := Int.mul_ediv_add_emod lo T
  have eb := Int.mul_ediv_add_emod hi T
  have hq : lo / T ≤ hi / T := Int.ediv_le_ediv (by omega) hl
  have hcase : hi / T = lo / T ∨ hi / T = lo / T + 1 ∨ lo / T + 2 ≤ hi / T := by omega
  have h2 : lo / T + 2 ≤ hi / T → False := by
    intro g
    have := Int.mul_le_mul_of_nonneg_left g (show 0 ≤ T by omega)
    rw [Int.mul_add] at this
    omega
  have hstep : T * (lo / T + 1) = T * (lo / T) + T := by rw [Int.mul_add, Int.mul_one]
  split
  · rename_i hle
    have e : hi / T = lo / T := by
      rcases hcase with e | e | e
      · exact e
      · rw [e, hstep] at eb; omega
      · exact (h2 e).elim
    rw [e] at eb
    constructor
    · rintro ⟨y, g1, g2, rfl⟩
      have ey := Int.mul_ediv_add_emod y T
      have q1 : lo / T ≤ y / T := Int.ediv_le_ediv (by omega) g1
      have q2 : y / T ≤ hi / T := Int.ediv_le_ediv (by omega) g2
      have : y / T = lo / T := by omega
      rw [this] at ey
      omega
    · rintro ⟨g1, g2⟩
      exact ⟨T * (lo / T) + v, by omega, by omega, (div_eq rfl (by omega) (by omega)).2⟩
  · rename_i hle
    have e : hi / T = lo / T + 1 := by
      rcases hcase with e | e | e
      · rw [e] at eb; omega
      · exact e
      · exact (h2 e).elim
    rw [e, hstep] at eb
    constructor
    · rintro ⟨y, g1, g2, rfl⟩
      have ey := Int.mul_ediv_add_emod y T
      have y0 := Int.emod_nonneg y (b := T) (by omega)
      have y1 := Int.emod_lt_of_pos y (b := T) (by omega)
      have q1 : lo / T ≤ y / T := Int.ediv_le_ediv (by omega) g1
      have q2 : y / T ≤ hi / T := Int.ediv_le_ediv (by omega) g2
      have : y / T = lo / T ∨ y / T = lo / T + 1 := by omega
      rcases this with q | q
      · rw [q] at ey; right; omega
      · rw [q, hstep] at ey; left; omega
    · rintro (⟨g1, g2⟩ | ⟨g1, g2⟩)
      · exact ⟨T * (lo / T + 1) + v, by rw [hstep]; omega, by rw [hstep]; omega, (div_eq rfl (by omega) (by omega)).2⟩
      · exact ⟨T * (lo / T) + v, by omega, by omega, (div_eq rfl (by omega) (by omega)).2⟩

theorem InS_one (a b x : Int) : InS [(a, b)] x ↔ (a ≤ x ∧ x ≤ b) := by simp [InS]
theorem InS_take_succ {m : List Sp} {k : Nat} {p : Sp} (h : m[k]? = some p) (x : Int) : InS (m.take (k + 1)) x ↔ (InS (m.take k) x ∨ (p.1 ≤ x ∧ x ≤ p.2)) := by
  rw [take_snoc? h, InS_append]; simp [InS]
/-- what comes of the numbers of a list, ahead of the last step -/
def ImInv (D T : Int) (m : List Sp) (o : List Sp) : Prop := (∀ v, InS o v ↔ ∃ x, InS m x ∧ x / D % T = v) ∧ ∀ p ∈ o, 0 ≤ p.1 ∧ p.1 ≤ p.2 ∧ p.2 ≤ T - 1
theorem ImInv.start (D T : Int) : ImInv D T [] [] := ⟨fun v => by simp [InS], by simp⟩
theorem im_span {D T : Int} (hD : 1 ≤ D) {x1 x2 : Int} (hx : x1 ≤ x2) (v : Int) : (∃ x, x1 ≤ x ∧ x ≤ x2 ∧ x / D % T = v) ↔ ∃ y, x1 / D ≤ y ∧ y ≤ x2 / D ∧ y % T = v := by
  constructor
  · rintro ⟨x, h1, h2, h3⟩
    have := (div_span hD hx).1 ⟨x, h1, h2, rfl⟩
    exact ⟨_, this.1, this.2, h3⟩
  · rintro ⟨y, h1, h2, h3⟩
    obtain ⟨x, g1, g2, rfl⟩ := (div_span hD hx).2 ⟨h1, h2⟩
    exact ⟨x, g1, g2, h3⟩
theorem ImInv.next {D T : Int} {m : List Sp} {o : List Sp} {k : Nat} {x1 x2 : Int} {n : List Sp} (h : ImInv D T (m.take k) o) (hx : m[k]? = some (x1, x2))
    (hn : ∀ v, InS n v ↔ ∃ x, x1 ≤ x ∧ x ≤ x2 ∧ x / D % T = v) (hb : ∀ p ∈ n, 0 ≤ p.1 ∧ p.1 ≤ p.2 ∧ p.2 ≤ T - 1) : ImInv D T (m.take (k + 1)) (o ++ n) := by
  refine ⟨fun v => ?_, fun p hp => ?_⟩
  · rw [InS_append, h.1, hn]
    constructor
    · rintro (⟨x, g1, g2⟩ | ⟨x, g1, g2, g3⟩)
      · exact ⟨x, (InS_take_succ hx x).2 (.inl g1), g2⟩
      · exact ⟨x, (InS_take_succ hx x).2 (.inr ⟨g1, g2⟩), g3⟩
    · rintro ⟨x, g1, g2⟩
      rcases (InS_take_succ hx x).1 g1 with g | g
      · exact .inl ⟨x, g, g2⟩
      · exact .inr ⟨x, g.1, g.2, g2⟩
  · rcases List.mem_append.1 hp with g | g
    · exact h.2 p g
    · exact hb p g
theorem ImInv.one {D T : Int} {m : List Sp} {o : List Sp} {k : Nat} {x1 x2 : Int} (hD : 1 ≤ D) (hT : 1 ≤ T) (h : ImInv D T (m.take k) o) (hx : m[k]? = some (x1, x2)) (hxx : x1 ≤ x2)
    (hs : x2 / D - x1 / D < T - 1) (hle : x1 / D % T ≤ x2 / D % T) : ImInv D T (m.take (k + 1)) (o ++ [(x1 / D % T, x2 / D % T)]) := by
  have a0 := Int.emod_nonneg (x1 / D) (b := T) (by omega)
  have b1 := Int.emod_lt_of_pos (x2 / D) (b := T) (by omega)
  refine h.next hx (fun v => ?_) (fun p hp => by simp at hp; subst hp; simp only; omega)
  rw [InS_one, im_span hD hxx, res_span hT (Int.ediv_le_ediv (by omega) hxx) hs, if_pos hle]
theorem ImInv.two {D T : Int} {m : List Sp} {o : List Sp} {k : Nat} {x1 x2 : Int} (hD : 1 ≤ D) (hT : 1 ≤ T) (h : ImInv D T (m.take k) o) (hx : m[k]? = some (x1, x2)) (hxx : x1 ≤ x2)
    (hs : x2 / D - x1 / D < T - 1) (hle : ¬ x1 / D % T ≤ x2 / D % T) : ImInv D T (m.take (k + 1)) (o ++ [(0, x2 / D % T), (x1 / D % T, T - 1)]) := by
  have a0 := Int.emod_nonneg (x1 / D) (b := T) (by omega)
  have a1 := Int.emod_lt_of_pos (x1 / D) (b := T) (by omega)
  have b0 := Int.emod_nonneg (x2 / D) (b := T) (by omega)
  have b1 := Int.emod_lt_of_pos (x2 / D) (b := T) (by omega)
  refine h.next hx (fun v => ?_) (fun p hp => by simp at hp; rcases hp with rfl | rfl <;> simp only <;> omega)
  rw [im_span hD hxx, res_span hT (Int.ediv_le_ediv (by omega) hxx) hs, if_neg hle]
  simp [InS]
theorem ImInv.full {D T : Int} {m : List Sp} {k : Nat} {x1 x2 : Int} (hD : 1 ≤ D) (hT : 1 ≤ T) (hx : m[k]? = some (x1, x2)) (hxx : x1 ≤ x2)
    (hs : T - 1 ≤ x2 / D - x1 / D) : ImInv D T m [(0, T - 1)] := by
  refine ⟨fun v => ?_, fun p hp => by simp at hp; subst hp; simp only; omega⟩
  rw [InS_one]
  constructor
  · rintro ⟨h0, h1⟩
    obtain ⟨x, g1, g2, g3⟩ := (im_span hD hxx v).2 (res_all hT hs h0 (by omega))
    exact ⟨x, InS_of_mem (List.mem_of_getElem? hx) g1 g2, g3⟩
  · rintro ⟨x, _, rfl⟩
    have := Int.emod_nonneg (x / D) (b := T) (by omega)
    have := Int.emod_lt_of_pos (x / D) (b := T) (by omega)
    omega

theorem nums_mem (r : List Sp) (x : Int) : x ∈ nums r ↔ InS r x := by
  rw [InS_iff]
  simp only [nums, List.mem_flatMap, numsOf, List.mem_map, List.mem_range]
  constructor
  · rintro ⟨p, hp, i, hi, rfl⟩
    exact ⟨p, hp, by omega, by omega⟩
  · rintro ⟨p, hp, h1, h2⟩
    exact ⟨p, hp, (x - p.1).toNat, by omega, by omega⟩
/-- the values of a set's numbers; the numbers whose values are in another set -/
def ImgS (d t u : Int) (a : List Sp) (v : Int) : Prop := bitsB d t u = true ∧ ∃ x, Mem a x ∧ 0 ≤ x ∧ x ≤ 2097151 ∧ pval d t u x = v
def topM (a : List Sp) (x : Int) : Prop := Mem a x ∧ Mem [(0, 2097151)] x
theorem topM_iff (a : List Sp) (x : Int) : topM a x ↔ (Mem a x ∧ 0 ≤ x ∧ x ≤ 2097151) := by
  constructor
  · rintro ⟨h, _, _, h3⟩
    exact ⟨h, (InS_one _ _ _).1 h3⟩
  · rintro ⟨h, h3⟩
    exact ⟨h, h.1, h.2.1, (InS_one _ _ _).2 h3⟩
theorem rep_img (d t u : Int) (a : List Sp) : ∃ r, Hid (Rep r (ImgS d t u a)) := rep_all _ fun v ⟨hb, x, _, _, _, hv⟩ => by have := pval_bd hb x; omega
theorem ImInv.rep0 {d t : Int} {a m o r : List Sp} (hb : bitsB d t 0 = true) (hm : Rep m (topM a)) (h : ImInv (pw d) (pw t) m o) (hr : Rep r (Mem o)) : Rep r (ImgS d t 0 a) := by
  refine hr.congr fun v => ?_
  have ht := pw_le21 (n := t) (by have := (bitsB_iff _ _ _).1 hb; omega) (by have := (bitsB_iff _ _ _).1 hb; omega)
  have e : Mem o v ↔ InS o v := by
    refine ⟨fun h => h.2.2, fun hv => ?_⟩
    obtain ⟨p, hp, g1, g2⟩ := (InS_iff _ _).1 hv
    have := h.2 p hp
    exact ⟨by omega, by omega, hv⟩
  rw [e, h.1]
  unfold ImgS
  simp only [hm.2, topM_iff, hb, true_and, pval]
  have e0 : pw 0 = 1 := rfl
  simp only [e0, Int.mul_one, and_assoc]
theorem ImInv.repU {d t u : Int} {a m o r : List Sp} (hb : bitsB d t u = true) (hm : Rep m (topM a)) (h : ImInv (pw d) (pw t) m o) (hr : Rep r (Mem o)) {s : List Sp}
    (hs : Rep s (Mem ((nums r).map fun v => (v * pw u, v * pw u)))) : Rep s (ImgS d t u a) := by
  refine hs.congr fun v => ?_
  obtain ⟨b1, b2, b3, b4, b5, b6, b7⟩ := (bitsB_iff _ _ _).1 hb
  have ht := pw_le21 (n := t) (by omega) b4
  have e : ∀ y, InS r y ↔ InS o y := fun y => by
    rw [hr.2]
    refine ⟨fun h => h.2.2, fun hv => ?_⟩
    obtain ⟨p, hp, g1, g2⟩ := (InS_iff _ _).1 hv
    have := h.2 p hp
    exact ⟨by omega, by omega, hv⟩
  have e2 : InS ((nums r).map fun v => (v * pw u, v * pw u)) v ↔ ∃ y, InS r y ∧ y * pw u = v := by
    rw [InS_iff]
    constructor
    · rintro ⟨p, hp, g1, g2⟩
      obtain ⟨y, hy, rfl⟩ := List.mem_map.1 hp
      exact ⟨y, (nums_mem r y).1 hy, by simp only at g1 g2; omega⟩
    · rintro ⟨y, hy, rfl⟩
      exact ⟨_, List.mem_map.2 ⟨y, (nums_mem r y).2 hy, rfl⟩, Int.le_refl _, Int.le_refl _⟩
  have e3 : ImgS d t u a v ↔ ∃ y, InS r y ∧ y * pw u = v := by
    unfold ImgS
    constructor
    · rintro ⟨_, x, hx, h0, h1, rfl⟩
      exact ⟨_, (e _).2 ((h.1 _).2 ⟨x, (hm.2 x).2 ((topM_iff a x).2 ⟨hx, h0, h1⟩), rfl⟩), rfl⟩
    · rintro ⟨y, hy, rfl⟩
      obtain ⟨x, hx, rfl⟩ := (h.1 _).1 ((e _).1 hy)
      obtain ⟨g1, g2, g3⟩ := (topM_iff a x).1 ((hm.2 x).1 hx)
      exact ⟨hb, x, g1, g2, g3, rfl⟩
  rw [e3, ← e2]
  refine ⟨fun g => g.2.2, fun g => ⟨?_, ?_, g⟩⟩
  all_goals
    obtain ⟨_, x, _, _, _, hv⟩ := e3.2 (e2.1 g)
    have := pval_bd hb x
    omega
/-- a plain list of numbers between two has not many spans -/
theorem PlainF.len_in {a lo hi : Int} {l : List Sp} (h : PlainF a l) (hlo : ∀ x, InS l x → lo ≤ x) (hhi : ∀ x, InS l x → x ≤ hi) (hle : lo ≤ hi + 1) : 2 * (l.length : Int) ≤ hi - lo + 2 := by
  induction l generalizing a lo with
  | nil => simp; omega
  | cons p l ih =>
    obtain ⟨h1, h2, h3, h4⟩ := h
    have g1 := hlo p.1 (.inl ⟨by omega, h2⟩)
    have g2 := hhi p.2 (.inl ⟨h2, by omega⟩)
    cases l with
    | nil => simp; omega
    | cons q l =>
      have g3 := hhi q.1 (.inr (.inl ⟨by omega, h4.2.1⟩))
      have g4 := h4.1
      have := ih h4 (lo := p.2 + 2) (fun x hx => by have := h4.low hx; omega) (fun x hx => hhi x (.inr hx)) (by omega)
      simp only [List.length_cons] at this ⊢
      omega
theorem topM_len {a m : List Sp} (h : Rep m (topM a)) : m.length ≤ 1048576 := by
  have := PlainF.len_in h.1 (lo := 0) (hi := 2097151) (fun x hx => ((topM_iff a x).1 ((h.2 x).1 hx)).2.1) (fun x hx => ((topM_iff a x).1 ((h.2 x).1 hx)).2.2) (by omega)
  omega
theorem topM_mem {a m : List Sp} (h : Rep m (topM a)) {k : Nat} {x1 x2 : Int} (hk : m[k]? = some (x1, x2)) : 0 ≤ x1 ∧ x1 ≤ x2 ∧ x2 ≤ 2097151 := by
  have hp := PlainF.mem h.1 (List.mem_of_getElem? hk)
  have h12 : x1 ≤ x2 := by simp only at hp; omega
  have g1 := (topM_iff a x1).1 ((h.2 x1).1 (InS_of_mem (List.mem_of_getElem? hk) (Int.le_refl _) h12))
  have g2 := (topM_iff a x2).1 ((h.2 x2).1 (InS_of_mem (List.mem_of_getElem? hk) h12 (Int.le_refl _)))
  omega
end Go.Proofs.YtlmkokeapbleoaaGreat
end
section
namespace Go.Proofs.YtlmkokeapbleoaaGreat
open Go.RowKit Go.Shelf
set_option linter.unusedVariables false
set_option linter.unusedSimpArgs false
attribute [local go_sem] Oper.semAt_some

/-- a part that lies in a box -/
def PBox (S : Nat) (a d t u : Int) (W : World) : Prop := W.cell? ⟨S, 0, none⟩ = some (.int .i64 a) ∧ W.cell? ⟨S, 1, none⟩ = some (.int .i64 d) ∧ W.cell? ⟨S, 2, none⟩ = some (.int .i64 t) ∧ W.cell? ⟨S, 3, none⟩ = some (.int .i64 u)
theorem St.pbox {w0 w : World} {F : World → Prop} (hK : Hid (St w0 w F)) (a d t u : Int) : Hid (St w0 (w.alloc (.cells #[.int .i64 a, .int .i64 d, .int .i64 t, .int .i64 u] 70)) (fun W => PBox w.heap.size a d t u W ∧ F W)) := by
  refine Lib.hid (hK.out.add ((Below.refl _ _).alloc (Nat.le_refl _) _) (fun W hW => ?_))
  have hb := heap_alloc_new w (.cells #[.int .i64 a, .int .i64 d, .int .i64 t, .int .i64 u] 70)
  have key : ∀ j v, (#[.int .i64 a, .int .i64 d, .int .i64 t, .int .i64 u] : Array Value)[j]? = some v → W.cell? ⟨w.heap.size, j, none⟩ = some v := by
    intro j v hj
    rw [hW.cell (p := ⟨w.heap.size, j, none⟩) (by simp)]
    simp only [World.cell?, hb]
    exact hj
  exact ⟨key 0 _ rfl, key 1 _ rfl, key 2 _ rfl, key 3 _ rfl⟩
theorem bits_st {w0 w : World} {F : World → Prop} (hK : Hid (St w0 w F)) (a d t u : Int) {v : Bool} (hv : bitsB d t u = v) : Calls Tryz.prog 209 #[.agg #[.int .i64 a, .int .i64 d, .int .i64 t, .int .i64 u]] w (RetV w0 (.bool v) F) := by
  subst hv; exact retV_gives hK (bits_any a d t u w)
def shlV (u v : Int) : Int := IntKind.i64.wrap (v * 2 ^ u.toNat)
theorem rep_none {r : List Sp} {S : Int → Prop} (h : Rep r S) (hS : ∀ x, ¬ S x) : r = [] :=
  Rep.unique h (S := S) (T := fun _ => False) ⟨trivial, fun x => Iff.rfl⟩ (fun x => by simp [hS x])
theorem retL_nil {w0 w : World} {F : World → Prop} (hK : Hid (St w0 w F)) : RetL w0 [] F (.returned (.slice none 0 0)) w :=
  ⟨none, 0, rfl, Lib.hid (hK.out.weaken fun W h => ⟨⟨Sl.nil_ _ _ _, fun p hp => (by cases hp), by simp⟩, h⟩)⟩
theorem band_T {t lo T : Int} (hT : Hid (pw t = T)) (h0 : 0 ≤ lo) (h1 : lo ≤ 2097151) (t0 : 0 ≤ t) (t1 : t ≤ 21) : bits .and .i64 lo (T - 1) = lo % T := by
  rw [← hT.out]; exact band_mask h0 (by omega) t0 t1

section
variable {w0 w : World} {F : World → Prop} {A : Option Addr} {a0 r : List Sp}
set_option maxRecDepth 100000 in
set_option maxHeartbeats 16000000 in
theorem Image_st (hK : Hid (St w0 w F)) (ha : ∀ W, F W → Lst A a0 W) (c : Nat) (a d t u : Int) (hr : Hid (Rep r (ImgS d t u a0))) :
    Calls Tryz.prog 230 #[.agg #[.int .i64 a, .int .i64 d, .int .i64 t, .int .i64 u], .slice A a0.length c] w (RetL w0 r F) := by
  have HK := St.pbox hK a d t u
  rcases hb : bitsB d t u with _ | _
  · obtain rfl := rep_none hr.out (fun x h => by have := h.1; rw [hb] at this; cases this)
    have HBB := Lib.hid hb
    clear hb
    go_enter Tryz.func230, Tryz.ntmps230
    go_wp2_with fail
    refine (bits_st HK a d t u HBB.out).mono ?_
    rintro e w1 ⟨rfl, HK⟩
    go_wp2_with fail
    go_ret
    exact retL_nil (Lib.hid (HK.out.weaken fun W h => h.2))
  have HBB := Lib.hid hb
  obtain ⟨b1, b2, b3, b4, b5, b6, b7⟩ := (bitsB_iff _ _ _).1 hb
  obtain ⟨m, Rm⟩ := rep_meet a0 [(0, 2097151)]
  have RM : Hid (Rep m (topM a0)) := Rm
  have hml := topM_len RM.out
  obtain ⟨T, hT⟩ : ∃ T, (2 : Int) ^ t.toNat = T := ⟨_, rfl⟩
  have HT : Hid (pw t = T) := Lib.hid hT
  obtain ⟨D, hD⟩ : ∃ D, (2 : Int) ^ d.toNat = D := ⟨_, rfl⟩
  have HD : Hid (pw d = D) := Lib.hid hD
  have hT1 : 1 ≤ T ∧ T ≤ 2097152 := by have h1 := pw_pos t; have h2 := pw_le21 (n := t) (by omega) b4; rw [HT.out] at h1 h2; exact ⟨h1, h2⟩
  have hD1 : 1 ≤ D := by have h1 := pw_pos d; rw [HD.out] at h1; exact h1
  obtain ⟨hT1, hT2⟩ := hT1
  clear hb b7
  refine (callsIn_wide (n := 8)).1 ?_
  refine callsIn_of_wp_marks Tryz.func230 rfl trivial ?_ rfl
  refine wpIn_wide.2 ?_
  simp only [Tryz.ntmps230, List.size_toArray, List.length_cons, List.length_nil, Nat.reduceAdd, Nat.reduceSub, Array.replicate_succ, Array.replicate_zero, List.push_toArray, List.append_toArray, List.nil_append, List.cons_append]
  go_wp2_with fail
  refine (bits_st HK a d t u HBB.out).mono ?_
  rintro e w1 ⟨rfl, HK⟩
  obtain ⟨hp0, hp1, hp2, hp3⟩ := HK.out.now.1
  go_wp2_with fail
  have HK := St.lit HK (0, 2097151) (by intro p hp; simp at hp; subst hp; simp)
  refine (Meet_st HK (fun _ h => ha _ h.2.2) (fun _ h => h.1) _ _ Rm).mono ?_
  rintro e w3 ⟨A1, c1, rfl, HK⟩
  clear hp0 hp1 hp2 hp3
  go_upto_block 0 with fail
  go_cut [6] from 13 (fun v wr => ∃ (o : List Sp) (Ao : Option Addr) (co : Nat), v = .slice Ao o.length co ∧ o.length ≤ 2097153 ∧ Hid (SRow wr w3.heap.size Ao co o) ∧ Hid (ImInv D T m o) ∧ Hid (Below w3.heap.size w3 wr))
  case first =>
    go_wp2_with fail
    go_loopw [6, 25] (fun v i wr => ∃ (k : Nat) (o : List Sp) (Ao : Option Addr) (co : Nat), k ≤ m.length ∧ i = .int .i64 k ∧ v = .slice Ao o.length co ∧ o.length ≤ 2 * k ∧ Hid (SRow wr w3.heap.size Ao co o) ∧ Hid (ImInv D T (m.take k) o) ∧ Hid (Below w3.heap.size w3 wr)) (fun _ i _ => m.length - (intOf i).toNat)
    case atStart => exact ⟨0, [], none, 0, Nat.zero_le _, rfl, rfl, by simp, Lib.hid (SRow.start _ _), Lib.hid (ImInv.start _ _), Lib.hid (Below.refl _ _)⟩
    case round =>
    obtain ⟨k, o, Ao, co, hk, rfl, rfl, hol, HO, HI, HB⟩ := hrel
    have HS := Lib.hid (HK.out.step HB.out)
    by_cases hlt : k < m.length
    · obtain ⟨g, off, p, hA, hp, hc1, hc2⟩ := HS.out.now.1.sp.at_ hlt
      obtain ⟨x1, x2⟩ := p
      obtain ⟨hx0, hx12, hx2⟩ := topM_mem RM.out hp
      obtain ⟨hp0, hp1, hp2, hp3⟩ := HS.out.now.2.2.1
      have HP := Lib.hid hp
      simp only at hc1 hc2
      obtain ⟨lo, hlo⟩ : ∃ z, x1 / D = z := ⟨_, rfl⟩
      obtain ⟨hi, hhi⟩ : ∃ z, x2 / D = z := ⟨_, rfl⟩
      have HLO := Lib.hid hlo
      have HHI := Lib.hid hhi
      have hlo0 : 0 ≤ lo := by rw [← hlo]; exact Int.ediv_nonneg hx0 (by omega)
      have hlh : lo ≤ hi := by rw [← hlo, ← hhi]; exact Int.ediv_le_ediv (by omega) hx12
      have hhi2 : hi ≤ 2097151 := by rw [← hhi]; exact Int.le_trans (Int.ediv_le_self _ (by omega)) hx2
      obtain ⟨la, hla⟩ : ∃ z, bits BinOp.and IntKind.i64 lo (T - 1) = z := ⟨_, rfl⟩
      obtain ⟨lb, hlb⟩ : ∃ z, bits BinOp.and IntKind.i64 hi (T - 1) = z := ⟨_, rfl⟩
      have HLA : Hid (lo % T = la) := by unfold Hid; rw [← hla]; exact (band_T HT hlo0 (by omega) (by omega) b4).symm
      have HLB : Hid (hi % T = lb) := by unfold Hid; rw [← hlb]; exact (band_T HT (by omega) hhi2 (by omega) b4).symm
      have hgw := lt_of_cell hc1
      have hbw := lt_of_cell hp1
      subst hA
      clear hp
      by_cases hfull : T - 1 ≤ hi - lo
      · go_wp2_with (go_quiet (fail))
        go_meet
        case rel =>
          exact ⟨[(0, T - 1)], _, _, rfl, by simp, Lib.hid (SRow.lit' (by simp) (by have := HB.out.size; simp; omega)), Lib.hid (ImInv.full hD1 hT1 HP.out hx12 (by rw [HLO.out, HHI.out]; exact hfull)),
            Lib.hid ((below_drewN (HB.out.alloc HB.out.size _) _).alloc (by have := HB.out.size; simp; omega) _)⟩
      · have hnf : ¬ (T - 1 ≤ hi - lo) := hfull
        by_cases hle : la ≤ lb
        · go_wp2_with (first | go_quiet (fail) | (at_builtin; go_must (refine wpList_pushS rfl _ _ rfl (((HO.out.alloc _).drewN _)) rfl (by first | rfl | (simp; rfl) | simp) (by omega) (by have := HB.out.size; simp; omega) ?_); intro l2 A2 c2 w5 HL2 HO2 HG2 _))
          have HI2 := Lib.hid (HI.out.one hD1 hT1 HP.out hx12 (by rw [HLO.out, HHI.out]; omega) (by rw [HLO.out, HHI.out, HLA.out, HLB.out]; exact hle))
          rw [HLO.out, HHI.out, HLA.out, HLB.out, ← HL2.out] at HI2
          have hl2 : l2.length = o.length + 1 := by rw [HL2.out]; simp
          refine ⟨⟨k + 1, l2, A2, c2, by omega, by go_num, rfl, by omega, HO2, HI2, Lib.hid (SRow.pushed (below_drewN (HB.out.alloc HB.out.size _) _) ((HO.out.alloc _).drewN _) (Nat.le_refl _) (by have := HB.out.size; simp; omega) HG2.out)⟩, by simp [intOf]; omega⟩
        · go_wp2_with (first | go_quiet (fail) | (at_builtin; go_must (refine wpList_pushS2 rfl _ _ rfl (((HO.out.alloc _).drewN _)) rfl (by first | rfl | (simp; rfl) | simp) (by omega) (by have := HB.out.size; simp; omega) ?_); intro l2 A2 c2 w5 HL2 HO2 HG2 _))
          have HI2 := Lib.hid (HI.out.two hD1 hT1 HP.out hx12 (by rw [HLO.out, HHI.out]; omega) (by rw [HLO.out, HHI.out, HLA.out, HLB.out]; exact hle))
          rw [HLO.out, HHI.out, HLA.out, HLB.out, ← HL2.out] at HI2
          have hl2 : l2.length = o.length + 2 := by rw [HL2.out]; simp
          refine ⟨⟨k + 1, l2, A2, c2, by omega, by go_num, rfl, by omega, HO2, HI2, Lib.hid (SRow.pushed (below_drewN (HB.out.alloc HB.out.size _) _) ((HO.out.alloc _).drewN _) (Nat.le_refl _) (by have := HB.out.size; simp; omega) HG2.out)⟩, by simp [intOf]; omega⟩
    · obtain rfl : k = m.length := by omega
      have hd : decide (m.length < m.length) = false := by simp
      have HIm := Lib.hid HI.out
      rw [List.take_length] at HIm
      go_wp2_with fail
      go_meet
      case rel => exact ⟨o, Ao, co, rfl, by omega, HO, HIm, HB⟩
  case rest =>
    obtain ⟨o, Ao, co, rfl, hol, HO, HI, HB⟩ := hcut
    have hwd : SpW o := fun p hp => by have := HI.out.2 p hp; omega
    have HK4 := Lib.hid (HK.out.add (G := fun W => True) HB.out (fun W hW => trivial))
    have HK := Lib.hid (HK4.out.add (Below.refl _ _) (G := Lst Ao o) (fun W hW => ⟨HO.out.spans.below hW, hwd, by omega⟩))
    obtain ⟨ro, Ro⟩ := rep_norm o
    go_wp2_with fail
    refine (Norm_st HK (fun _ h => h.1) _ Ro).mono ?_
    rintro e w5 ⟨A5, c5, rfl, HK⟩
    obtain ⟨hp0, hp1, hp2, hp3⟩ := HK.out.now.2.2.2.2.2.1
    have hps := lt_of_cell hp3
    by_cases hu : u = 0
    · subst hu
      have HIp : Hid (ImInv (pw d) (pw t) m o) := by unfold Hid; rw [HD.out, HT.out]; exact HI.out
      obtain rfl := Rep.unique (HIp.out.rep0 HBB.out RM.out Ro.out) hr.out (fun _ => Iff.rfl)
      go_wp2_with fail
      refine leaveM_nil (.slice A5 ro.length c5) (by simp [results, Tryz.f230, go_sem]) ?_
      exact ⟨_, _, rfl, Lib.hid (HK.out.weaken fun W h => ⟨h.1, h.2.2.2.2.2.2⟩)⟩
    · have hu0 : (u == 0) = false := by simpa using hu
      have hnl : (nums ro).length ≤ 2147483650 := by have h1 := nums_length Ro.out.1; have h2 := Ro.out.1.cnt_bd; omega
      have hSr : Hid (Rep ro (Mem ro)) := Lib.hid (Rep.self Ro.out.1)
      have HW5 := Lib.hid ((Below.refl w5.heap.size w5).alloc (Nat.le_refl _) (.cells #[.slice none 0 0] 103))
      have HBN := Lib.hid (BoxRow.new w5 (w5.heap.size + 1))
      have HKA := Lib.hid (HK.out.add HW5.out (G := fun W => True) (fun _ _ => trivial))
      have HE := Lib.hid (Each_any A5 ro.length c5 ro ro (w5.alloc (.cells #[.slice none 0 0] 103)) HKA.out.now.2.1.sp HKA.out.now.2.1.wd HKA.out.now.2.1.len hSr.out)
      go_wp2_with fail
      refine HE.out.mono ?_
      rintro e w6 ⟨B, g, c6, rfl, hbd, hcB, hsp, hb6⟩
      have HB6 := Lib.hid (show Below w5.heap.size w5 w6 from HW5.out.trans (hb6.mono (by simp)))
      have hsz : (w5.alloc (.cells #[.slice none 0 0] 103)).heap.size = w5.heap.size + 1 := by simp
      rw [hsz] at hbd
      obtain ⟨Ab, cb, hbx, hbf, hbr⟩ := HBN.out
      have hbx6 := (hb6.cell (lt_of_cell hbx)).trans hbx
      have hbf6 := (hb6.frozen (lt_of_cell hbx)).trans hbf
      have HB0 : Hid (BoxRow w5.heap.size (w5.heap.size + 1) [] w6) := by
        refine ⟨none, 0, ?_, hbf6, SRow.start _ _⟩
        rw [hb6.cell (p := ⟨w5.heap.size, 0, none⟩) (by simp)]
        have hb := heap_alloc_new w5 (.cells #[.slice none 0 0] 103)
        simp only [World.cell?, hb]; rfl
      have hno : ∀ k, OwnB w5.heap.size (w5.heap.size + 1) w5.heap.size w6 k ↔ k = w5.heap.size := by
        intro k
        obtain ⟨A0, c0, q1, _, q3⟩ := HB0.out
        have : w6.cell? ⟨w5.heap.size, 0, none⟩ = some (.slice none 0 0) := by
          rw [hb6.cell (p := ⟨w5.heap.size, 0, none⟩) (by simp)]
          have hb := heap_alloc_new w5 (.cells #[.slice none 0 0] 103)
          simp only [World.cell?, hb]; rfl
        unfold OwnB
        rw [this]
        simp; omega
      have HSQ := Lib.hid (each_stops Fence.wide 7 trivial rfl (by omega) w5.heap.size (w5.heap.size + 1) w5.heap.size B g c6 ro hSr.out.1 w6 (by omega) (fun k hk => by have := (hno k).1 hk; omega) (fun hk => by have := (hno g).1 hk; omega) hcB (by omega) hsp)
      clear hno hcB hsp hb6 HE hbx hbf hbx6 hbf6 hbr
      go_wp2_with fail
      refine wp_rangeFunc (gf := 249) (lb := #[.pointer (some ⟨B, 0, none⟩)]) rfl (enters_of Tryz.func249 (by kernel_rfl) rfl) HSQ.out kpB_t (kpB_b (by omega)) (fun _ => rfl)
        (fun pre W => BoxRow w5.heap.size (w5.heap.size + 1) (pre.map fun v => (shlV u v, shlV u v)) W ∧ (pre.length ≤ (nums ro).length ∧ Below w5.heap.size w5 W))
        (fun _ _ _ => False)
        (OwnFrom.and (BoxRow.own _ _ _ _) (OwnFrom.and (ownFrom_pure _ _) (ownFrom_below (Nat.le_refl _) (by omega))))
        (fun _ _ _ _ _ h _ _ => h)
        ⟨HB0.out, Nat.zero_le _, HB6.out⟩
        ?act ?assign ?body ?done ?stop
      case assign =>
        intro l x W K hK
        gi_wp2
        exact hK
      case body =>
        rintro l pre x W ⟨hbr, hlen1, hbW⟩ hlen
        obtain ⟨Ab, cb, hv, hf, hrow⟩ := hbr
        obtain ⟨hp0, hp1, hp2, hp3⟩ := (HK.out.step hbW).now.2.2.2.2.2.1
        gi_wp2
        obtain ⟨y, hy⟩ : ∃ y, IntKind.i64.wrap (x * 2 ^ u.toNat) = y := ⟨_, rfl⟩
        obtain ⟨o, ho⟩ : ∃ o, o = pre.map fun v => (shlV u v, shlV u v) := ⟨_, rfl⟩
        rw [← ho] at hv hrow
        have hol : o.length < 1099511627776 := by rw [ho, List.length_map]; omega
        have HOE := Lib.hid ho
        have HROW := Lib.hid hrow
        have HBW := Lib.hid hbW
        clear ho hrow hbW
        refine region_round_held (by kernel_rfl) (fun _ _ h => h) (by kernel_rfl) (fun w' => w'.cell? ⟨w.heap.size, 3, none⟩ = some (.int .i64 u)) hp3 (fun hHeld => ?_)
        refine wpAnyH_take (i := 1) (v := ?_) rfl (by kernel_rfl) (by kernel_rfl) (by kernel_rfl) (fun _ _ _ h => h) (Or.inl ⟨by first | kernel_rfl | rfl, ?_⟩) (by assumption) ?_
        rotate_left
        · intro w hSw; (try dsimp only at hSw); go_simp; (try with_reducible rfl)
        (try simp only [Act.put, List.getElem_toArray, List.getElem_cons_succ, List.getElem_cons_zero, List.setIfInBounds_toArray, List.set_cons_zero, List.set_cons_succ])
        refine wpAnyH_take (i := 2) (v := ?_) rfl (by kernel_rfl) (by kernel_rfl) (by kernel_rfl) (fun _ _ _ h => h) (Or.inl ⟨by first | kernel_rfl | rfl, ?_⟩) (by assumption) ?_
        rotate_left
        · intro w hSw; (try dsimp only at hSw); go_simp; (try with_reducible rfl)
        (try simp only [Act.put, List.getElem_toArray, List.getElem_cons_succ, List.getElem_cons_zero, List.setIfInBounds_toArray, List.set_cons_zero, List.set_cons_succ])
        refine wpAnyH_take (i := 3) (v := ?_) rfl (by kernel_rfl) (by kernel_rfl) (by kernel_rfl) (fun _ _ _ h => h) (Or.inl ⟨by first | kernel_rfl | rfl, ?_⟩) (by assumption) ?_
        rotate_left
        · intro w hSw; (try dsimp only at hSw); go_simp; (try with_reducible rfl)
        (try simp only [Act.put, List.getElem_toArray, List.getElem_cons_succ, List.getElem_cons_zero, List.setIfInBounds_toArray, List.set_cons_zero, List.set_cons_succ])
        refine wpAnyH_take (i := 4) (v := ?_) rfl (by kernel_rfl) (by kernel_rfl) (by kernel_rfl) (fun _ _ _ h => h) (Or.inl ⟨by first | kernel_rfl | rfl, ?_⟩) (by assumption) ?_
        rotate_left
        · intro w hSw; (try dsimp only at hSw); go_simp; (try with_reducible rfl)
        (try simp only [Act.put, List.getElem_toArray, List.getElem_cons_succ, List.getElem_cons_zero, List.setIfInBounds_toArray, List.set_cons_zero, List.set_cons_succ])
        refine wpAnyH_take (i := 5) (v := ?_) rfl (by kernel_rfl) (by kernel_rfl) (by kernel_rfl) (fun _ _ _ h => h) (Or.inl ⟨by first | kernel_rfl | rfl, ?_⟩) (by assumption) ?_
        rotate_left
        · intro w hSw; (try dsimp only at hSw); go_simp; (try with_reducible rfl)
        (try simp only [Act.put, List.getElem_toArray, List.getElem_cons_succ, List.getElem_cons_zero, List.setIfInBounds_toArray, List.set_cons_zero, List.set_cons_succ])
        refine wpAnyH_take (i := 6) (v := ?_) rfl (by kernel_rfl) (by kernel_rfl) (by kernel_rfl) (fun _ _ _ h => h) (Or.inl ⟨by first | kernel_rfl | rfl, ?_⟩) (by assumption) ?_
        rotate_left
        · intro w hSw; (try dsimp only at hSw); go_simp; (try with_reducible rfl)
        (try simp only [Act.put, List.getElem_toArray, List.getElem_cons_succ, List.getElem_cons_zero, List.setIfInBounds_toArray, List.set_cons_zero, List.set_cons_succ])
        refine wpAnyH_take (i := 7) (v := ?_) rfl (by kernel_rfl) (by kernel_rfl) (by kernel_rfl) (fun _ _ _ h => h) (Or.inl ⟨by first | kernel_rfl | rfl, ?_⟩) (by assumption) ?_
        rotate_left
        · intro w hSw; (try dsimp only at hSw); go_simp; (try with_reducible rfl)
        (try simp only [Act.put, List.getElem_toArray, List.getElem_cons_succ, List.getElem_cons_zero, List.setIfInBounds_toArray, List.set_cons_zero, List.set_cons_succ])
        refine wpAnyH_take (i := 8) (v := ?_) rfl (by kernel_rfl) (by kernel_rfl) (by kernel_rfl) (fun _ _ _ h => h) (Or.inl ⟨by first | kernel_rfl | rfl, ?_⟩) (by assumption) ?_
        rotate_left
        · intro w hSw; (try dsimp only at hSw); go_simp; (try with_reducible rfl)
        (try simp only [Act.put, List.getElem_toArray, List.getElem_cons_succ, List.getElem_cons_zero, List.setIfInBounds_toArray, List.set_cons_zero, List.set_cons_succ])
        refine wpAnyH_take (i := 9) (v := ?_) rfl (by kernel_rfl) (by kernel_rfl) (by kernel_rfl) (fun _ _ _ h => h) (Or.inl ⟨by first | kernel_rfl | rfl, ?_⟩) (by assumption) ?_
        rotate_left
        · intro w hSw; (try dsimp only at hSw); go_simp; (try with_reducible rfl)
        (try simp only [Act.put, List.getElem_toArray, List.getElem_cons_succ, List.getElem_cons_zero, List.setIfInBounds_toArray, List.set_cons_zero, List.set_cons_succ])
        refine wpAnyH_ready (rs := [0, 10]) (by kernel_rfl) (by simp) (AllReadyH.cons rfl (fun K hK => ?_) (AllReadyH.cons rfl (fun K hK => ?_) AllReadyH.nil))
        go_simp
        refine hK.out _ _ (hp3) (fun hHeld => ?_)
        clear hK K
        (try simp only [Act.put, List.getElem_toArray, List.getElem_cons_succ, List.getElem_cons_zero, List.setIfInBounds_toArray, List.set_cons_zero, List.set_cons_succ])
        refine wpAnyH_ready (rs := [10]) (by kernel_rfl) (by simp) (AllReadyH.cons rfl (fun K hK => ?_) AllReadyH.nil)
        go_simp
        refine hK.out _ _ (cellAlloc _ hp3) (fun hHeld => ?_)
        clear hK K
        (try simp only [Act.put, List.getElem_toArray, List.getElem_cons_succ, List.getElem_cons_zero, List.setIfInBounds_toArray, List.set_cons_zero, List.set_cons_succ])
        rotate_left
        go_simp
        refine hK.out _ _ (cellAlloc _ hp3) (fun hHeld => ?_)
        clear hK K
        (try simp only [Act.put, List.getElem_toArray, List.getElem_cons_succ, List.getElem_cons_zero, List.setIfInBounds_toArray, List.set_cons_zero, List.set_cons_succ])
        have hva : (W.alloc (.cells #[.int .i64 y, .int .i64 y] 129)).cell? ⟨w5.heap.size, 0, none⟩ = some (.slice Ab o.length cb) := cellAlloc _ hv
        refine wpAnyH_ready (rs := [0]) (by kernel_rfl) (by simp) (AllReadyH.cons rfl (fun K hK => ?_) AllReadyH.nil)
        go_simp
        refine hK.out _ _ (cellAlloc _ hp3) (fun hHeld => ?_)
        clear hK K
        (try simp only [Act.put, List.getElem_toArray, List.getElem_cons_succ, List.getElem_cons_zero, List.setIfInBounds_toArray, List.set_cons_zero, List.set_cons_succ])
        clear hva
        all_goals
          refine wpAnyH_ready (rs := [11]) (by kernel_rfl) (by simp) (AllReadyH.cons rfl (fun K hK => ?_) AllReadyH.nil)
          rw [if_pos (by rfl)]
          refine wp_pushS (w0 := W.drew) rfl _ _ rfl HROW.out.drew rfl rfl hol (by have := lt_of_cell hv; simp; omega) ?_
          intro l2 A2 c2 w7 HL2 HO2 HG2 HAT2
          have HPU := Lib.hid (BoxRow.push (lo := w5.heap.size) (hi := w5.heap.size + 1) (Nat.le_refl _) (by omega) (Nat.le_refl _) hv hf HROW.out (w0 := W.drew) (ob := .cells #[.int .i64 y, .int .i64 y] 129) (below_drewN (Below.refl _ _) 1) rfl HO2.out HG2.out HAT2.out)
          have hbx7 : w7.cell? ⟨w5.heap.size, 0, none⟩ = some (.slice Ab o.length cb) := by
            refine HG2.out.cell (cellAlloc _ hv) (fun e => ?_)
            have := HROW.out.lt _ e.symm
            simp at this; omega
          have hbf7 : w7.frozen? ⟨w5.heap.size, 0, none⟩ = false := by
            have := HPU.out.2.2.1
            obtain ⟨A8, c8, q1, q2, q3⟩ := this
            rwa [World.frozen?_setCell] at q2
          have hpx7 : w7.cell? ⟨w.heap.size, 3, none⟩ = some (.int .i64 u) := by
            refine HG2.out.cell (cellAlloc _ hp3) (fun e => ?_)
            have := HROW.out.lt _ e.symm
            simp at *; omega
          have hpx8 : (w7.setCell ⟨w5.heap.size, 0, none⟩ (.slice A2 l2.length c2)).cell? ⟨w.heap.size, 3, none⟩ = some (.int .i64 u) := by
            rw [World.cell?_setCell_far _ _ _ _ (by show w5.heap.size ≠ w.heap.size; omega)]; exact hpx7
          refine hK.out _ _ (hpx7) (fun hHeld => ?_)
          clear hK K
          (try simp only [Act.put, List.getElem_toArray, List.getElem_cons_succ, List.getElem_cons_zero, List.setIfInBounds_toArray, List.set_cons_zero, List.set_cons_succ])
          refine wpAnyH_ready (rs := [12]) (by kernel_rfl) (by simp) (AllReadyH.cons rfl (fun K hK => ?_) AllReadyH.nil)
          go_simp
          refine hK.out _ _ (hpx8) (fun hHeld => ?_)
          clear hK K
          (try simp only [Act.put, List.getElem_toArray, List.getElem_cons_succ, List.getElem_cons_zero, List.setIfInBounds_toArray, List.set_cons_zero, List.set_cons_succ])
          refine wpAnyH_done (by kernel_rfl) ?_ _
          gi_wp2
          obtain ⟨q1, q2, q3, q4⟩ := HPU.out
          have e : l2 = (pre ++ [x]).map fun v => (shlV u v, shlV u v) := by rw [HL2.out, HOE.out, List.map_append, ← hy]; rfl
          refine ⟨q1, q2, ?_, by simp; omega, HBW.out.trans q4⟩
          show BoxRow _ _ ((pre ++ [x]).map fun v => (shlV u v, shlV u v)) _
          rw [← e]; exact q3
      case done =>
        rintro D' xs W hD' rfl ⟨hbr, hlen1, hbW⟩ hKD
        obtain ⟨Ab, cb, hv, hf, hrow⟩ := hbr
        have hnr : ∀ y ∈ nums ro, 0 ≤ y ∧ y ≤ 63 := by
          intro y hy
          have h1 := (nums_mem ro y).1 hy
          have h2 := (Ro.out.2 y).1 h1
          obtain ⟨p, hp, g1, g2⟩ := (InS_iff _ _).1 h2.2.2
          have h3 := HI.out.2 p hp
          have ht6 : t ≤ 6 := by have := (bitsB_iff _ _ _).1 HBB.out; omega
          have h4 := pw_le6 (n := t) (by omega) ht6
          rw [HT.out] at h4
          omega
        have e : ((nums ro).map fun v => (shlV u v, shlV u v)) = (nums ro).map fun v => (v * pw u, v * pw u) := by
          refine List.map_congr_left fun y hy => ?_
          have h1 := hnr y hy
          have h2 := pw_le21 (n := u) (by omega) (by omega)
          have h3 := pw_pos u
          have h4 : y * pw u ≤ 63 * 2097152 := Int.mul_le_mul h1.2 h2 (by omega) (by omega)
          have h5 : 0 ≤ y * pw u := Int.mul_nonneg h1.1 (by omega)
          have : shlV u y = y * pw u := IntWalk.i64_in _ (by show _ ∧ _; unfold pw at h4 h5; omega)
          rw [this]
        rw [e] at hv hrow
        obtain ⟨lu, hlu⟩ : ∃ l, ((nums ro).map fun v => (v * pw u, v * pw u)) = l := ⟨_, rfl⟩
        rw [hlu] at hv hrow
        have hwu : SpW lu := by
          intro p hp
          rw [← hlu] at hp
          obtain ⟨y, hy, rfl⟩ := List.mem_map.1 hp
          have h1 := hnr y hy
          have h2 := pw_le21 (n := u) (by omega) (by omega)
          have h3 := pw_pos u
          have h4 : y * pw u ≤ 63 * 2097152 := Int.mul_le_mul h1.2 h2 (by omega) (by omega)
          have h5 : 0 ≤ y * pw u := Int.mul_nonneg h1.1 (by omega)
          simp only
          omega
        have hll : lu.length < 137438953472 := by rw [← hlu, List.length_map]; omega
        have hDW : D' < W.heap.size := (Array.getElem?_eq_some_iff.1 hKD).1
        obtain ⟨s, Rs⟩ := rep_norm lu
        have HK7 := Lib.hid ((HK.out.step hbW).add (Below.refl _ _) (G := fun W' => Lst Ab lu W' ∧ Below w5.heap.size w5 W' ∧ W'.heap[D']? = some (.deferred (some []))) (fun W' hW' => ⟨⟨hrow.spans.below hW', hwu, hll⟩, hbW.trans (hW'.mono hbW.size), (hW'.block D' hDW).trans hKD⟩))
        have HS := Lib.hid hlu
        have hlt := lt_of_cell hv
        clear e hlu hKD hbW hrow hDW
        go_wp2_with fail
        refine (Norm_st HK7 (fun _ h => h.1.1) _ Rs).mono ?_
        rintro e w8 ⟨A8, c8, rfl, HK8⟩
        go_wp2_with fail
        have hn8 := HK8.out.now
        refine leaveM_mark (.slice A8 s.length c8) hn8.2.1.2.2 (fun w' => by simp [results, Tryz.f230, go_sem]) ?_
        have HIp : Hid (ImInv (pw d) (pw t) m o) := by unfold Hid; rw [HD.out, HT.out]; exact HI.out
        obtain rfl := Rep.unique (HIp.out.repU HBB.out RM.out Ro.out (by rw [HS.out]; exact Rs.out)) hr.out (fun _ => Iff.rfl)
        exact ⟨_, _, rfl, Lib.hid ((HK.out.mark hn8.2.1.2.1 hn8.1 (by omega) hn8.2.1.2.2).weaken fun W h => ⟨h.1, h.2.2.2.2.2.2.2⟩)⟩
      case stop =>
        rintro D cd pre W hD hpre hF
        exact hF.elim
end
end Go.Proofs.YtlmkokeapbleoaaGreat
end
