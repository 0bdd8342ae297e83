/- Contracts and plain laws that the proof leans on. Condition: as each theorem says. -/
import Derived.Test.YtlmkokeapbleoaaGreatP10
import Derived.Test.YtlmkokeapbleoaaGreatP05
import Derived.Test.YtlmkokeapbleoaaGreatP06
import Derived.Test.YtlmkokeapbleoaaGreatP04
import Derived.Deep.Cut
import Derived.Deep.CutBlock
import Derived.Lib.MinMax
import Derived.Deep.RegionHeld3
import Derived.Deep.DeepCutAuto
set_option maxRecDepth 100000
set_option maxHeartbeats 64000000
set_option linter.unusedVariables false
set_option linter.unusedSimpArgs false
namespace Go.Proofs.YtlmkokeapbleoaaGreat
open Go.RowKit
section
section
variable {w0 w : World} {F : World → Prop}
theorem symbols_st (hK : Hid (St w0 w F)) : Calls Tryz.prog 241 #[] w (RetL w0 [(0, 1114111)] F) := by
 go_enter Tryz.func241, Tryz.ntmps241
 go_wp2_with fail
 go_ret
 exact ⟨_, 1, rfl, St.lit hK (0, 1114111) (by intro p hp; simp at hp; subst hp; simp)⟩
def SymNe (gs : List (List Sp)) (k : Nat) : Prop := ∀ g ∈ gs.take k, symL g ≠ []
theorem symNe_next {gs : List (List Sp)} {k : Nat} {g : List Sp} (h : gs[k]? = some g) : SymNe gs (k + 1) ↔ (SymNe gs k ∧ symL g ≠ []) := by
 unfold SymNe
 rw [take_snoc? h]
 constructor
 ·intro q; exact ⟨fun x hx => q x (List.mem_append.2 (.inl hx)), q g (by simp)⟩
 ·rintro ⟨q1, q2⟩ x hx
  rcases List.mem_append.1 hx with hx | hx
  ·exact q1 x hx
  ·simp at hx; subst hx; exact q2
theorem inner_st (hK : Hid (St w0 w F)) {A : Option Addr} {l : List PartL} (hp : ∀ W, F W → PartsAt A l W) (b d t u s : Int) (c : Nat) {B : Option Addr} {O : List (Item Sp)} (hb : ∀ W, F W → LLx B O W) (cb : Nat)
  (h4 : O.length ≤ 4) (hn : Hid (NumsOk ⟨b, d, t, u, s, l⟩)) (hpo : Hid (∀ p ∈ l, PartOk O.length p)) (r : List Sp) (hr : Hid (Rep r (InnS ⟨b, d, t, u, s, l⟩ (bodies O)))) (ok : Bool) (hok : Hid (pB (InRange ⟨b, d, t, u, s, l⟩ (bodies O)) = ok)) (hst : StageP l) :
  Calls Tryz.prog 228 #[.agg #[.int .i64 b, .int .i64 d, .int .i64 t, .int .i64 u, .int .i64 s, .slice A l.length c], .slice B O.length cb] w (RetLB2 w0 r ok F) := by
 have HP := Lh hp
 have HB := Lh hb
 have hl4 : l.length ≤ 4 := hn.out.2.2.2.2
 have h4' : (O.length : Int) ≤ 4 := by omega
 have HK := St.box hK [.int .i64 b, .int .i64 d, .int .i64 t, .int .i64 u, .int .i64 s, .slice A l.length c] 68
 have HN := Lh (pB_true hn.out)
 obtain ⟨q0, q1, q2, q3, q4, q5⟩ := HK.out.now.1.c6
 have hmk : ∀ w : World, (Instr.makeSlice 29 (.int .i64 (O.length : Int)) (.int .i64 (O.length : Int))).run Tryz.prog w = .ok (.slice (some ⟨w.heap.size, 0, none⟩) O.length O.length) (w.alloc (.cells (madeCells #[.slice none 0 0] O.length) 103)) := fun w => run_make_row' 29 103 (.slice none 0 0) 24 Tryz.underlying29 infoHdy rfl .i64 .i64 O.length (by omega) (by omega) w
 clear hp hb
 go_enter Tryz.func228, Tryz.ntmps228
 go_wp2_with fail
 refine (numbers_st HK (fun _ h => HP.out _ h.2) b d t u s c true HN).mono ?_
 rintro e w3 ⟨rfl, HK3⟩
 clear q0 q1 q2 q3 q4 q5 HK
 go_wp2_with fail
 clear hmk
 go_loopw [6, 25] (fun sv iv wr => ∃ (k : Nat) (sb : Bool) (Q : List (Item Sp)), k ≤ O.length ∧ iv = .int .i64 k ∧ sv = .bool sb ∧ Q.length = O.length ∧ Hid (pB (SymNe (bodies O) k) = sb) ∧ Hid (bodies Q = ((bodies O).map symL).take k ++ List.replicate (O.length - k) []) ∧ Hid (RwB w3.heap.size w3.heap.size Q wr) ∧ Hid (Below w3.heap.size w3 wr)) (fun _ iv _ => O.length - (intOf iv).toNat)
 case atStart =>
  refine ⟨0, true, List.replicate O.length (none, 0, []), Nat.zero_le _, rfl, rfl, by simp, Lh (pB_true fun g hg => by simp at hg), Lh (by simp [bodies]), Lh ?_, Lh ?_⟩
  ·exact RwB.start w3 O.length
  ·exact (Below.refl _ _).alloc (Nat.le_refl _) _
 case round =>
 obtain ⟨k, sb, Q, hk, rfl, rfl, hQl, HS, HQ, HRW, HBL⟩ := hrel
 have HKr : Hid (St w0 wr (fun W => BoxC w.heap.size [.int .i64 b, .int .i64 d, .int .i64 t, .int .i64 u, .int .i64 s, .slice A l.length c] W ∧ F W)) := Lh (HK3.out.step HBL.out)
 by_cases hlt : k < O.length
 ·obtain ⟨gb, off, ga, gc, g, rfl, _, hg, hc, hl⟩ := (HB.out _ HKr.out.now.2).at_ hlt
  have HG := Lh hg
  have HKi := Lh (HKr.out.add (Below.refl _ _) (G := Lst ga g) (fun W hW => hl.below hW))
  have hsz : w3.heap.size ≤ wr.heap.size := by have := HBL.out.size; omega
  have HRS : Hid (Rep (symL g) (fun x => Mem g x ∧ Mem [(0, 1114111)] x)) := Lh (symL_rep g)
  obtain ⟨sl, hsl⟩ : ∃ z, symL g = z := ⟨_, rfl⟩
  rw [hsl] at HRS
  have HSL := Lh hsl
  have HNX := Lh (symNe_next hg)
  have hnew : (bodies (Q.set k (none, 0, sl))) = ((bodies O).map symL).take (k + 1) ++ List.replicate (O.length - (k + 1)) [] := by
   have hG2 : ((bodies O).map symL)[k]? = some sl := by rw [List.getElem?_map, hg, ← hsl]; rfl
   have e := fill_set hG2
   rw [List.length_map, bodies_length, ← HQ.out] at e
   rw [← e]; unfold bodies; rw [List.map_set]
  have HNEW := Lh hnew
  have hkq : k < Q.length := by omega
  clear hg hl hsl hnew
  go_wp2_with fail
  refine (symbols_st (St.here HKi)).mono ?_
  rintro e w4 ⟨A4, c4, rfl, HK4⟩
  go_wp2_with fail
  refine (Meet_stD HK4 (fun _ h => h.2.1) (fun _ h => h.1) gc c4 HRS).mono ?_
  rintro e w5 ⟨A5, c5, rfl, HD5, HK5, HB5⟩
  have HD6 := Lh (HD5.out.mono (P' := fun k => wr.heap.size ≤ k) fun k hp _ => Nat.le_trans HK4.out.2.size hp)
  have HRN := Lh (HRW.out.set (by omega) HK5.out.2 (i := k) (c := c5) HD6.out)
  obtain ⟨vc, hvc, hvf⟩ := (HRW.out.below HK5.out.2).cell hkq
  have hcs : (w5.setCell ⟨w3.heap.size, k, none⟩ (.slice A5 sl.length c5)).cell? ⟨w3.heap.size, k, none⟩ = some (.slice A5 sl.length c5) := World.cell?_setCell_same _ _ _ hvc
  have HBN : Hid (Below w3.heap.size w3 (w5.setCell ⟨w3.heap.size, k, none⟩ (.slice A5 sl.length c5))) := Lh ((HBL.out.trans (HK5.out.2.mono hsz)).setCell (Nat.le_refl _) _)
  have HQN : Hid (bodies (Q.set k (A5, c5, sl)) = ((bodies O).map symL).take (k + 1) ++ List.replicate (O.length - (k + 1)) []) := Lh (by
   rw [← HNEW.out]; unfold bodies; rw [List.map_set, List.map_set])
  have hQl2 : (Q.set k (A5, c5, sl)).length = O.length := by rw [List.length_set]; exact hQl
  have HQl2 := Lh hQl2
  have HLT := Lh hlt
  have hkO : (k : Int) < (O.length : Int) := by omega
  clear hQl2 hsz hkq hlt hc hQl
  rcases sb with _ | _
  ·have HSN : Hid (pB (SymNe (bodies O) (k + 1)) = false) := Lh (pB_false fun h => by
    have h2 := pB_true (HNX.out.1 h).1
    rw [HS.out] at h2; cases h2)
   go_wp2_with fail
   go_roundw
   case rel => exact ⟨k + 1, false, Q.set k (A5, c5, sl), by have := HLT.out; omega, by go_num, rfl, HQl2.out, HSN, HQN, HRN, HBN⟩
   case measure => have := HLT.out; simp [intOf]; omega
  by_cases hn : sl = []
  ·subst hn
   have HSN : Hid (pB (SymNe (bodies O) (k + 1)) = false) := Lh (pB_false fun h => (HNX.out.1 h).2 HSL.out)
   go_wp2_with fail
   go_roundw
   case rel => exact ⟨k + 1, false, Q.set k (A5, c5, []), by have := HLT.out; omega, by go_num, rfl, HQl2.out, HSN, HQN, HRN, HBN⟩
   case measure => have := HLT.out; simp [intOf]; omega
  ·have hpos : decide (0 < sl.length) = true := by simpa using List.length_pos_iff.2 hn
   have HSN : Hid (pB (SymNe (bodies O) (k + 1)) = true) := Lh (pB_true (HNX.out.2 ⟨pB_iff.1 HS.out, by rw [HSL.out]; exact hn⟩))
   clear hn
   go_wp2_with fail
   go_roundw
   case rel => exact ⟨k + 1, true, Q.set k (A5, c5, sl), by have := HLT.out; omega, by go_num, rfl, HQl2.out, HSN, HQN, HRN, HBN⟩
   case measure => have := HLT.out; simp [intOf]; omega
 ·obtain rfl : k = O.length := by omega
  have hd : decide (O.length < O.length) = false := by simp
  have HBQ : Hid (bodies Q = (bodies O).map symL) := Lh (by
   rw [HQ.out, Nat.sub_self, List.replicate_zero, List.append_nil, List.take_of_length_le (by rw [List.length_map, bodies_length]; exact Nat.le_refl _)])
  have HKs := Lh (HKr.out.add (Below.refl _ _) (G := LLx (some ⟨w3.heap.size, 0, none⟩) Q) (fun W hW => (HRW.out.row (Nat.le_refl _) (by omega)).mono (P' := fun _ => True) (fun _ _ _ => trivial) W (fun k _ hk => hW.block k hk)))
  have HSA : Hid (pB (∀ g ∈ bodies O, symL g ≠ []) = sb) := Lh (by
   rw [← HS.out]; unfold SymNe; rw [List.take_of_length_le (by rw [bodies_length]; exact Nat.le_refl _)])
  have hc5 := HKs.out.now.2.1 5 _ rfl
  rw [← hQl]
  have HQl := Lh hQl
  clear hQl HS HQ
  go_wp2_with fail
  clear hc5
  go_loopw [49] (fun iv wr2 => ∃ k : Nat, k ≤ l.length ∧ iv = .int .i64 k ∧ Hid (St w0 wr2 (fun W => LLx (some ⟨w3.heap.size, 0, none⟩) Q W ∧ BoxC w.heap.size [.int .i64 b, .int .i64 d, .int .i64 t, .int .i64 u, .int .i64 s, .slice A l.length c] W ∧ F W))) (fun iv _ => l.length - (intOf iv).toNat)
  case atStart => exact ⟨0, Nat.zero_le _, rfl, HKs⟩
  case round =>
  clear HKs HKr HRW HBL
  obtain ⟨k, hk, rfl, HKs⟩ := hrel
  by_cases hlt : k < l.length
  ·obtain ⟨pb, off, p, rfl, hx, hw, hd0, hd1, hd2, hd3⟩ := (HP.out _ HKs.out.now.2.2).at_ hlt
   have H2 := Lh (pB_true (hpo.out p (List.mem_of_getElem? hx)))
   have HKp := St.box HKs [.int .i64 p.1, .int .i64 p.2.1, .int .i64 p.2.2.1, .int .i64 p.2.2.2] 70
   obtain ⟨x1, x2, x3, x4⟩ := p
   simp only at hd0 hd1 hd2 hd3 HKp
   clear hx hw
   rw [HQl.out]
   go_wp2_with fail
   refine (PRight_st HKp x1 x2 x3 x4 O.length true H2).mono ?_
   rintro e w6 ⟨rfl, HK6⟩
   go_wp2_with fail
   go_roundw
   case rel => exact ⟨k + 1, by omega, by go_num, Lh (HK6.out.weaken fun _ h => h.2)⟩
   case measure => simp [intOf]; omega
  ·obtain rfl : k = l.length := by omega
   have hd : decide (l.length < l.length) = false := by simp
   rcases sb with _ | _
   ·have hno : ∀ w, ¬ WinG (bodies O) w := fun w hw => by
     have h1 : ¬ ∀ g ∈ bodies O, symL g ≠ [] := fun h => by have := pB_true h; rw [HSA.out] at this; cases this
     apply h1
     intro g hg h2
     exact win_none hg h2 w hw
    obtain rfl := pB_t hok (fun v ⟨w, hw, _⟩ => absurd hw (hno w))
    obtain rfl := Rep.unique hr.out (show Rep [] (InnS ⟨b, d, t, u, s, l⟩ (bodies O)) from ⟨by simp [Plain, PlainF], fun v => by
     simp only [InS, false_iff]
     rintro ⟨w, hw, _⟩
     exact hno w hw⟩) (fun _ => Iff.rfl)
    go_wp2_with fail
    go_ret2
    exact ⟨none, 0, rfl, Lh (HKs.out.weaken fun W h => ⟨lst_nil W, h.2.2⟩)⟩
   ·have HO : Hid (∀ g ∈ bodies Q, g ≠ [] ∧ Plain g ∧ ∀ x, InS g x → 0 ≤ x ∧ x ≤ 1114111) := Lh fun g hg => by
     rw [HBQ.out] at hg
     obtain ⟨g', hg', rfl⟩ := List.mem_map.1 hg
     refine ⟨pB_iff.1 HSA.out g' hg', (symL_rep g').1, fun x hx => ?_⟩
     exact ((symL_mem g' x).1 (((symL_rep g').1.mem x).2 hx)).2
    have HPQ : Hid (∀ p ∈ l, PartOk Q.length p) := Lh (by rw [HQl.out]; exact hpo.out)
    have HR2 : Hid (Rep r (InnS ⟨b, d, t, u, s, l⟩ (bodies Q))) := Lh (by rw [HBQ.out]; exact hr.out.congr fun v => (innS_sym _ _ v).symm)
    have HOK2 : Hid (pB (InRange ⟨b, d, t, u, s, l⟩ (bodies Q)) = ok) := Lh (by
     rw [← hok.out, HBQ.out]
     exact pB_congr ⟨fun h v hv => h v ((innS_sym _ _ v).2 hv), fun h v hv => h v ((innS_sym _ _ v).1 hv)⟩)
    obtain ⟨q0, q1, q2, q3, q4, q5⟩ := HKs.out.now.2.1.c6
    go_wp2_with fail
    refine (values_st HKs (fun _ h => HP.out _ h.2.2) b d t u s c (fun _ h => h.1) Q.length hn HPQ HO r HR2 ok HOK2 hst).mono ?_
    rintro e w7 ⟨A7, c7, rfl, HK7⟩
    go_wp2_with fail
    go_ret2
    exact ⟨A7, c7, rfl, Lh (HK7.out.weaken fun W h => ⟨h.1, h.2.2.2⟩)⟩
end
end
section
open Go.Shelf
def SRow (w : World) (base : Nat) (A : Option Addr) (c : Nat) (l : List Sp) : Prop := w.ownsRow base 129 2 (.slice A l.length c) l.length (spanCells l)
theorem SRow.start (w : World) (base : Nat) : SRow w base none 0 [] := World.ownsRow_nil _ _ _ _
theorem SRow.spans {w : World} {base : Nat} {A : Option Addr} {c : Nat} {l : List Sp} (h : SRow w base A c l) : Spans w A l.length l := Sl.of_own h
theorem SRow.alloc {w : World} {base : Nat} {A : Option Addr} {c : Nat} {l : List Sp} (h : SRow w base A c l) (o : Obj) : SRow (w.alloc o) base A c l := World.ownsRow.alloc h o
theorem SRow.drewN {w : World} {base : Nat} {A : Option Addr} {c : Nat} {l : List Sp} (h : SRow w base A c l) (q : Nat) : SRow (w.drewN q) base A c l := h
theorem SRow.drew {w : World} {base : Nat} {A : Option Addr} {c : Nat} {l : List Sp} (h : SRow w base A c l) : SRow w.drew base A c l := h
theorem SRow.pushed {B : Nat} {W w0 w' : World} {o : Obj} {base : Nat} {A : Option Addr} {c : Nat} {l : List Sp} (hb : Below B W w0) (hown : SRow w0 base A c l) (hB : B ≤ base) (hB' : B ≤ w0.heap.size)
  (hg : (w0.alloc o).grownBy w' (Value.ownBlock (.slice A l.length c))) : Below B W w' := below_pushed hb hown hB hB' hg
theorem SRow.lit (w : World) (base : Nat) (p1 p2 : Int) (h : base ≤ w.heap.size) : SRow (w.alloc (.cells #[.int .i64 p1, .int .i64 p2] 129)) base (some ⟨w.heap.size, 0, none⟩) 1 [(p1, p2)] :=
 ⟨rfl, .inr ⟨w.heap.size, 1, _, rfl, h, heap_alloc_new w _, Nat.le_refl _, by unfold maxLen; omega, rfl, rfl⟩⟩
theorem SRow.lit' {w : World} {base B : Nat} {p1 p2 : Int} (hB : B = w.heap.size) (h : base ≤ w.heap.size) : SRow (w.alloc (.cells #[.int .i64 p1, .int .i64 p2] 129)) base (some ⟨B, 0, none⟩) 1 [(p1, p2)] := by
 subst hB; exact SRow.lit w base p1 p2 h
section
variable {w0 : World} {ops : Array Oper} {rest : List Oper} {o : Oper} {a : Act} {Q : Exit → Act → World → Prop} {base : Nat} {A : Option Addr} {c : Nat} {l : List Sp}
theorem wpList_pushS (hgd : o.guard = none) (s x : Operand) (ho : o.op = .call { callee := .builtin .append, args := #[s, x], argTypes := #[103, 103] })
  (hown : SRow w0 base A c l) (hs : a.eval s = .slice A l.length c) {p1 p2 : Int} (hx : a.eval x = .slice (some ⟨w0.heap.size, 0, none⟩) 1 1) (hn : l.length < 1099511627776) (hbase : base ≤ w0.heap.size)
  (h : ∀ (l' : List Sp) A' c' w', Hid (l' = l ++ [(p1, p2)]) → Hid (SRow w' base A' c' l') → Hid ((w0.alloc (.cells #[.int .i64 p1, .int .i64 p2] 129)).grownBy w' (Value.ownBlock (.slice A l.length c))) →
   Hid (Value.ownBlock (.slice A' l'.length c') = Value.ownBlock (.slice A l.length c) ∨ Value.ownBlock (.slice A' l'.length c') = some (w0.heap.size + 1)) → wpList Tryz.prog ops Q rest (a.put o.dst (.slice A' l'.length c')) w') :
  wpList Tryz.prog ops Q (o :: rest) a (w0.alloc (.cells #[.int .i64 p1, .int .i64 p2] 129)) := by
 obtain ⟨i0, hi, hz0, hz1, hz2⟩ := info_parts info59
 have hs0 : (w0.alloc (.cells #[.int .i64 p1, .int .i64 p2] 129)).heap.size = w0.heap.size + 1 := by simp
 refine wpList_append_own_at _ hgd s x 103 ho base 129 i0 _ 2 16 Tryz.underlying103 hi hz0 hz1 hz2 rfl (by decide) _ l.length (spanCells l) hs (hown.alloc _) ⟨w0.heap.size, 0, none⟩ 1 1 [.int .i64 p1, .int .i64 p2] hx rfl ?_ (one2 rfl rfl)
  (by unfold maxLen; omega) (by omega) (by rw [hs0]; omega) ?_
 ·exact World.news_of_block (cs := #[.int .i64 p1, .int .i64 p2]) (t := 129) (fr := (0, 0)) (heap_alloc_new w0 _)
 ·intro v' w' hown' hg _ hat
  obtain ⟨A', c', rfl⟩ := own_shape hown'
  have e : (l ++ [(p1, p2)]).length = l.length + 1 := by simp
  rw [hs0] at hat
  rw [← e] at hown' hat ⊢
  exact h _ A' c' w' rfl (by unfold Hid SRow; rw [spanCells_append]; exact hown') hg hat
theorem wpList_pushS2 (hgd : o.guard = none) (s x : Operand) (ho : o.op = .call { callee := .builtin .append, args := #[s, x], argTypes := #[103, 103] })
  (hown : SRow w0 base A c l) (hs : a.eval s = .slice A l.length c) {p1 p2 q1 q2 : Int} (hx : a.eval x = .slice (some ⟨w0.heap.size, 0, none⟩) 2 2) (hn : l.length < 1099511627776) (hbase : base ≤ w0.heap.size)
  (h : ∀ (l' : List Sp) A' c' w', Hid (l' = l ++ [(p1, p2), (q1, q2)]) → Hid (SRow w' base A' c' l') → Hid ((w0.alloc (.cells #[.int .i64 p1, .int .i64 p2, .int .i64 q1, .int .i64 q2] 129)).grownBy w' (Value.ownBlock (.slice A l.length c))) →
   Hid (Value.ownBlock (.slice A' l'.length c') = Value.ownBlock (.slice A l.length c) ∨ Value.ownBlock (.slice A' l'.length c') = some (w0.heap.size + 1)) → wpList Tryz.prog ops Q rest (a.put o.dst (.slice A' l'.length c')) w') :
  wpList Tryz.prog ops Q (o :: rest) a (w0.alloc (.cells #[.int .i64 p1, .int .i64 p2, .int .i64 q1, .int .i64 q2] 129)) := by
 obtain ⟨i0, hi, hz0, hz1, hz2⟩ := info_parts info59
 have hs0 : (w0.alloc (.cells #[.int .i64 p1, .int .i64 p2, .int .i64 q1, .int .i64 q2] 129)).heap.size = w0.heap.size + 1 := by simp
 refine wpList_append_own_at _ hgd s x 103 ho base 129 i0 _ 2 16 Tryz.underlying103 hi hz0 hz1 hz2 rfl (by decide) _ l.length (spanCells l) hs (hown.alloc _) ⟨w0.heap.size, 0, none⟩ 2 2 [.int .i64 p1, .int .i64 p2, .int .i64 q1, .int .i64 q2] hx rfl ?_ (by intro u hu; simp at hu; rcases hu with rfl | rfl | rfl | rfl <;> rfl)
  (by unfold maxLen; omega) (by omega) (by rw [hs0]; omega) ?_
 ·exact World.news_of_block (cs := #[.int .i64 p1, .int .i64 p2, .int .i64 q1, .int .i64 q2]) (t := 129) (fr := (0, 0)) (heap_alloc_new w0 _)
 ·intro v' w' hown' hg _ hat
  obtain ⟨A', c', rfl⟩ := own_shape hown'
  have e : (l ++ [(p1, p2), (q1, q2)]).length = l.length + 2 := by simp
  rw [hs0] at hat
  rw [← e] at hown' hat ⊢
  exact h _ A' c' w' rfl (by unfold Hid SRow; rw [spanCells_append]; exact hown') hg hat
theorem wp_pushS (hgd : o.guard = none) (s x : Operand) (ho : o.op = .call { callee := .builtin .append, args := #[s, x], argTypes := #[103, 103] })
  (hown : SRow w0 base A c l) (hs : a.eval s = .slice A l.length c) {p1 p2 : Int} (hx : a.eval x = .slice (some ⟨w0.heap.size, 0, none⟩) 1 1) (hn : l.length < 1099511627776) (hbase : base ≤ w0.heap.size) {K : Act → World → Prop}
  (h : ∀ (l' : List Sp) A' c' w', Hid (l' = l ++ [(p1, p2)]) → Hid (SRow w' base A' c' l') → Hid ((w0.alloc (.cells #[.int .i64 p1, .int .i64 p2] 129)).grownBy w' (Value.ownBlock (.slice A l.length c))) →
   Hid (Value.ownBlock (.slice A' l'.length c') = Value.ownBlock (.slice A l.length c) ∨ Value.ownBlock (.slice A' l'.length c') = some (w0.heap.size + 1)) → K (a.put o.dst (.slice A' l'.length c')) w') :
  o.wp Tryz.prog a (w0.alloc (.cells #[.int .i64 p1, .int .i64 p2] 129)) K Q := by
 obtain ⟨i0, hi, hz0, hz1, hz2⟩ := info_parts info59
 have hs0 : (w0.alloc (.cells #[.int .i64 p1, .int .i64 p2] 129)).heap.size = w0.heap.size + 1 := by simp
 obtain ⟨v', w', hr, hown', hg, _, hat⟩ := run_append_own_at (P := Tryz.prog) (w0.alloc (.cells #[.int .i64 p1, .int .i64 p2] 129)) base 103 o.type 129 i0 _ 2 16 Tryz.underlying103 hi hz0 hz1 hz2 rfl (by decide) (.slice A l.length c) l.length (spanCells l) (hown.alloc _) ⟨w0.heap.size, 0, none⟩ 1 1 [.int .i64 p1, .int .i64 p2] rfl
  (World.news_of_block (cs := #[.int .i64 p1, .int .i64 p2]) (t := 129) (fr := (0, 0)) (heap_alloc_new w0 _)) (one2 rfl rfl) (by unfold maxLen; omega) (by omega) (by rw [hs0]; omega)
 unfold Oper.wp execOp
 simp only [ho, resolve, invoke, builtin, Sem.run_bind, Sem.run_pure, Result.andThen_ok, List.map_toArray, List.map_cons, List.map_nil, hs, hx, hr]
 obtain ⟨A', c', rfl⟩ := own_shape hown'
 have e : (l ++ [(p1, p2)]).length = l.length + 1 := by simp
 rw [hs0] at hat
 rw [← e] at hown' hat ⊢
 exact h _ A' c' w' rfl (by unfold Hid SRow; rw [spanCells_append]; exact hown') hg hat
end
theorem leaveM_nil {P : Program} {F : Fence} {n : Nat} {fn : Func} {tmps : Array Value} {R : Ending → World → Prop} {w : World} (v : Value) (h : (results fn tmps).run P w = .ok v w) (hR : R (.returned v) w) : LeavesInM F n P fn tmps R [] .returning w := ⟨v, h, hR⟩
theorem leaveM_mark {P : Program} {F : Fence} {n : Nat} {fn : Func} {tmps : Array Value} {R : Ending → World → Prop} {w : World} {D : Nat} (v : Value) (hD : w.heap[D]? = some (.deferred (some []))) (h : ∀ w', (results fn tmps).run P w' = .ok v w')
  (hR : R (.returned v) (w.putObj D (.deferred none))) : LeavesInM F n P fn tmps R [{ target := .collected D, args := #[] }] .returning w :=
 ⟨by simp, .inl ⟨_, _, rfl, run_takeDeferred hD, v, h _, hR⟩⟩
theorem St.mark {w0 w1 w : World} {F : World → Prop} {A : Option Addr} {r : List Sp} {D : Nat} (h : St w0 w1 F) (hb : Below w1.heap.size w1 w) (hL : Lst A r w) (hD : w1.heap.size ≤ D) (hK : w.heap[D]? = some (.deferred (some []))) :
  St w0 (w.putObj D (.deferred none)) (fun W => Lst A r W ∧ F W) := by
 have hg := grownBy_putObj' w D (.deferred none)
 have hb' : Below w1.heap.size w1 (w.putObj D (.deferred none)) := hb.grown hg hb.size (fun k e => by cases e; exact hD)
 refine h.add hb' (fun W hW => ?_)
 refine Lst.below ⟨⟨hL.sp.1, fun hn => ?_⟩, hL.wd, hL.len⟩ hW
 obtain ⟨b, off, e, hc⟩ := hL.sp.2 hn
 exact ⟨b, off, e, fun j u hu => cell_kept (hc j u hu) hg (fun r e => by cases e; exact ⟨_, hK, rfl⟩)⟩
def BoxRow (Bu base : Nat) (o : List Sp) (W : World) : Prop := ∃ A c, W.cell? ⟨Bu, 0, none⟩ = some (.slice A o.length c) ∧ W.frozen? ⟨Bu, 0, none⟩ = false ∧ SRow W base A c o
theorem BoxRow.own {β : Type} (B Bu base : Nat) (f : β → List Sp) : OwnFrom B (fun s W => BoxRow Bu base (f s) W) := by
 rintro s X Y row ⟨A, c, h1, h2, h3⟩ hg hr
 refine ⟨A, c, cell_kept h1 hg (fun r e => (hr r e).2), (frozen_kept h1 hg (fun r e => (hr r e).2)).trans h2, ?_⟩
 refine h3.kept hg ?_
 rcases hb : Value.ownBlock (.slice A (f s).length c) with _ | g
 ·exact .inl rfl
 ·right
  intro e
  obtain ⟨_, o, ho, hc⟩ := hr g e.symm
  rcases h3.2 with ⟨e', _⟩ | ⟨g', cap, cur, e', _, hgg, _⟩
  ·rw [e'] at hb; simp [Value.ownBlock] at hb
  ·rw [e'] at hb
   simp [Value.ownBlock] at hb
   subst hb
   rw [hgg] at ho
   cases ho
   cases hc
theorem BoxRow.new (w : World) (base : Nat) : BoxRow w.heap.size base [] (w.alloc (.cells #[.slice none 0 0] 103)) := by
 have hb := heap_alloc_new w (.cells #[.slice none 0 0] 103)
 refine ⟨none, 0, ?_, ?_, SRow.start _ _⟩
 ·simp only [World.cell?, hb]; rfl
 ·unfold World.frozen?; rw [hb]; simp
theorem BoxRow.push {lo hi Bu base : Nat} {W w0 W3 : World} {A A' : Option Addr} {c c' : Nat} {o l' : List Sp} {ob : Obj} (h1 : lo ≤ Bu) (h2 : Bu < hi) (h3 : hi ≤ base) (hv : W.cell? ⟨Bu, 0, none⟩ = some (.slice A o.length c)) (hf : W.frozen? ⟨Bu, 0, none⟩ = false)
  (ho : SRow W base A c o) (hb : Below W.heap.size W w0) (hob : ob.isCells = true) (HO : SRow W3 base A' c' l') (HG : (w0.alloc ob).grownBy W3 (Value.ownBlock (.slice A o.length c)))
  (HAT : Value.ownBlock (.slice A' l'.length c') = Value.ownBlock (.slice A o.length c) ∨ Value.ownBlock (.slice A' l'.length c') = some (w0.heap.size + 1)) :
  KeepsOthers W (W3.setCell ⟨Bu, 0, none⟩ (.slice A' l'.length c')) ∧ KpB lo hi Bu W (W3.setCell ⟨Bu, 0, none⟩ (.slice A' l'.length c')) ∧ BoxRow Bu base l' (W3.setCell ⟨Bu, 0, none⟩ (.slice A' l'.length c')) ∧
   Below lo W (W3.setCell ⟨Bu, 0, none⟩ (.slice A' l'.length c')) := by
 have hBu := lt_of_cell hv
 have hba : Below W.heap.size W (w0.alloc ob) := hb.alloc hb.size _
 have hs0 : (w0.alloc ob).heap.size = w0.heap.size + 1 := by simp
 have hrow : SRow w0 base A c o := by
  refine ⟨ho.1, ?_⟩
  rcases ho.2 with h | ⟨g, cap, cur, e, hg1, hg2, hg3⟩
  ·exact .inl h
  ·exact .inr ⟨g, cap, cur, e, hg1, (hb.block g (Array.getElem?_eq_some_iff.1 hg2).1).trans hg2, hg3⟩
 have hrowa : SRow (w0.alloc ob) base A c o := hrow.alloc _
 obtain ⟨k1, k2, k3⟩ := KpB.pushed (lo := lo) (hi := hi) h1 h2 hv hba hrowa HG (by rw [hs0]; exact HAT) HO h3
 have hne : some Bu ≠ Value.ownBlock (.slice A o.length c) := fun e => by have := ho.lt Bu e.symm; omega
 have hgb : ∀ k, Value.ownBlock (.slice A o.length c) = some k → lo ≤ k := fun k e => by have := ho.lt k e; omega
 refine ⟨?_, k1, ⟨A', c', k2, ?_, k3⟩, ?_⟩
 ·have q1 : KeepsOthers W w0 := ⟨hb.size, fun k o hk _ => (hb.block k (Array.getElem?_eq_some_iff.1 hk).1).trans hk⟩
  refine ((q1.trans (KeepsOthers.alloc w0 ob)).trans (KeepsOthers.of_grownBy HG ?_)).trans (KeepsOthers.setCell _ _ _)
  intro j oj hj hoj
  rcases hrowa.2 with ⟨e', _⟩ | ⟨g', cap, cur, e', _, hgg, _⟩
  ·rw [e'] at hj; simp [Value.ownBlock] at hj
  ·rw [e'] at hj
   simp [Value.ownBlock] at hj
   subst hj
   rw [hgg] at hoj
   cases hoj
   rfl
 ·rw [World.frozen?_setCell]
  exact (World.frozen?_of_block (HG.block Bu (by have := hba.size; omega) hne)).trans ((hba.frozen (p := ⟨Bu, 0, none⟩) hBu).trans hf)
 ·have q2 : Below lo W (w0.alloc ob) := hba.mono (by omega)
  exact (q2.grown HG (by have := hba.size; omega) hgb).setCell (p := ⟨Bu, 0, none⟩) h1 _
theorem SRow.below {W w : World} {base : Nat} {A : Option Addr} {c : Nat} {l : List Sp} (h : SRow W base A c l) (hb : Below W.heap.size W w) : SRow w base A c l := by
 refine ⟨h.1, ?_⟩
 rcases h.2 with h | ⟨g, cap, cur, e, hg1, hg2, hg3⟩
 ·exact .inl h
 ·exact .inr ⟨g, cap, cur, e, hg1, (hb.block g (Array.getElem?_eq_some_iff.1 hg2).1).trans hg2, hg3⟩
end
theorem div_span {D x1 x2 y : Int} (hD : 1 ≤ D) (hx : x1 ≤ x2) : (∃ x, x1 ≤ x ∧ x ≤ x2 ∧ x / D = y) ↔ (x1 / D ≤ y ∧ y ≤ x2 / D) := by
 constructor
 ·rintro ⟨x, h1, h2, rfl⟩
  exact ⟨Int.ediv_le_ediv (by omega) h1, Int.ediv_le_ediv (by omega) h2⟩
 ·rintro ⟨h1, h2⟩
  have h3 : y * D ≤ x2 := (Int.le_ediv_iff_mul_le (by omega)).1 h2
  by_cases h : x1 ≤ y * D
  ·exact ⟨y * D, h, h3, Int.mul_ediv_cancel _ (by omega)⟩
  ·have : y ≤ x1 / D := (Int.le_ediv_iff_mul_le (by omega)).2 (by omega)
   exact ⟨x1, Int.le_refl _, hx, by omega⟩
theorem res_all {T lo hi v : Int} (hT : 1 ≤ T) (h : T - 1 ≤ hi - lo) (h0 : 0 ≤ v) (h1 : v < T) : ∃ y, lo ≤ y ∧ y ≤ hi ∧ y % T = v := by
 have g0 := Int.emod_nonneg (v - lo) (b := T) (by omega)
 have g1 := Int.emod_lt_of_pos (v - lo) (b := T) (by omega)
 refine ⟨lo + (v - lo) % T, by omega, by omega, ?_⟩
 rw [Int.add_emod_emod, show lo + (v - lo) = v by omega]
 exact Int.emod_eq_of_lt h0 h1
theorem div_eq {T lo q m : Int} (h : lo = T * q + m) (h0 : 0 ≤ m) (h1 : m < T) : lo / T = q ∧ lo % T = m := by
 subst h
 have hT : T ≠ 0 := by omega
 constructor
 ·rw [Int.add_comm, Int.add_mul_ediv_left _ _ hT, Int.ediv_eq_zero_of_lt h0 h1]; omega
 ·rw [Int.add_comm, Int.add_mul_emod_self_left]; exact Int.emod_eq_of_lt h0 h1
theorem res_span {T lo hi v : Int} (hT : 1 ≤ T) (hl : lo ≤ hi) (h : hi - lo < T - 1) :
  (∃ y, lo ≤ y ∧ y ≤ hi ∧ y % T = v) ↔ (if lo % T ≤ hi % T then lo % T ≤ v ∧ v ≤ hi % T else (0 ≤ v ∧ v ≤ hi % T) ∨ (lo % T ≤ v ∧ v ≤ T - 1)) := by
 have a0 := Int.emod_nonneg lo (b := T) (by omega)
 have a1 := Int.emod_lt_of_pos lo (b := T) (by omega)
 have b0 := Int.emod_nonneg hi (b := T) (by omega)
 have b1 := Int.emod_lt_of_pos hi (b := T) (by omega)
 have ea := Int.mul_ediv_add_emod lo T
 have eb := Int.mul_ediv_add_emod hi T
 have hq : lo / T ≤ hi / T := Int.ediv_le_ediv (by omega) hl
 have hcase : hi / T = lo / T ∨ hi / T = lo / T + 1 ∨ lo / T + 2 ≤ hi / T := by omega
 have h2 : lo / T + 2 ≤ hi / T → False := by
  intro g
  have := Int.mul_le_mul_of_nonneg_left g (show 0 ≤ T by omega)
  rw [Int.mul_add] at this
  omega
 have hstep : T * (lo / T + 1) = T * (lo / T) + T := by rw [Int.mul_add, Int.mul_one]
 split
 ·rename_i hle
  have e : hi / T = lo / T := by
   rcases hcase with e | e | e
   ·exact e
   ·rw [e, hstep] at eb; omega
   ·exact (h2 e).elim
  rw [e] at eb
  constructor
  ·rintro ⟨y, g1, g2, rfl⟩
   have ey := Int.mul_ediv_add_emod y T
   have q1 : lo / T ≤ y / T := Int.ediv_le_ediv (by omega) g1
   have q2 : y / T ≤ hi / T := Int.ediv_le_ediv (by omega) g2
   have : y / T = lo / T := by omega
   rw [this] at ey
   omega
  ·rintro ⟨g1, g2⟩
   exact ⟨T * (lo / T) + v, by omega, by omega, (div_eq rfl (by omega) (by omega)).2⟩
 ·rename_i hle
  have e : hi / T = lo / T + 1 := by
   rcases hcase with e | e | e
   ·rw [e] at eb; omega
   ·exact e
   ·exact (h2 e).elim
  rw [e, hstep] at eb
  constructor
  ·rintro ⟨y, g1, g2, rfl⟩
   have ey := Int.mul_ediv_add_emod y T
   have y0 := Int.emod_nonneg y (b := T) (by omega)
   have y1 := Int.emod_lt_of_pos y (b := T) (by omega)
   have q1 : lo / T ≤ y / T := Int.ediv_le_ediv (by omega) g1
   have q2 : y / T ≤ hi / T := Int.ediv_le_ediv (by omega) g2
   have : y / T = lo / T ∨ y / T = lo / T + 1 := by omega
   rcases this with q | q
   ·rw [q] at ey; right; omega
   ·rw [q, hstep] at ey; left; omega
  ·rintro (⟨g1, g2⟩ | ⟨g1, g2⟩)
   ·exact ⟨T * (lo / T + 1) + v, by rw [hstep]; omega, by rw [hstep]; omega, (div_eq rfl (by omega) (by omega)).2⟩
   ·exact ⟨T * (lo / T) + v, by omega, by omega, (div_eq rfl (by omega) (by omega)).2⟩
theorem InS_one (a b x : Int) : InS [(a, b)] x ↔ (a ≤ x ∧ x ≤ b) := by simp [InS]
theorem InS_take_succ {m : List Sp} {k : Nat} {p : Sp} (h : m[k]? = some p) (x : Int) : InS (m.take (k + 1)) x ↔ (InS (m.take k) x ∨ (p.1 ≤ x ∧ x ≤ p.2)) := by
 rw [take_snoc? h, InS_append]; simp [InS]
def ImInv (D T : Int) (m : List Sp) (o : List Sp) : Prop := (∀ v, InS o v ↔ ∃ x, InS m x ∧ x / D % T = v) ∧ ∀ p ∈ o, 0 ≤ p.1 ∧ p.1 ≤ p.2 ∧ p.2 ≤ T - 1
theorem ImInv.start (D T : Int) : ImInv D T [] [] := ⟨fun v => by simp [InS], by simp⟩
theorem im_span {D T : Int} (hD : 1 ≤ D) {x1 x2 : Int} (hx : x1 ≤ x2) (v : Int) : (∃ x, x1 ≤ x ∧ x ≤ x2 ∧ x / D % T = v) ↔ ∃ y, x1 / D ≤ y ∧ y ≤ x2 / D ∧ y % T = v := by
 constructor
 ·rintro ⟨x, h1, h2, h3⟩
  have := (div_span hD hx).1 ⟨x, h1, h2, rfl⟩
  exact ⟨_, this.1, this.2, h3⟩
 ·rintro ⟨y, h1, h2, h3⟩
  obtain ⟨x, g1, g2, rfl⟩ := (div_span hD hx).2 ⟨h1, h2⟩
  exact ⟨x, g1, g2, h3⟩
theorem ImInv.next {D T : Int} {m : List Sp} {o : List Sp} {k : Nat} {x1 x2 : Int} {n : List Sp} (h : ImInv D T (m.take k) o) (hx : m[k]? = some (x1, x2))
  (hn : ∀ v, InS n v ↔ ∃ x, x1 ≤ x ∧ x ≤ x2 ∧ x / D % T = v) (hb : ∀ p ∈ n, 0 ≤ p.1 ∧ p.1 ≤ p.2 ∧ p.2 ≤ T - 1) : ImInv D T (m.take (k + 1)) (o ++ n) := by
 refine ⟨fun v => ?_, fun p hp => ?_⟩
 ·rw [InS_append, h.1, hn]
  constructor
  ·rintro (⟨x, g1, g2⟩ | ⟨x, g1, g2, g3⟩)
   ·exact ⟨x, (InS_take_succ hx x).2 (.inl g1), g2⟩
   ·exact ⟨x, (InS_take_succ hx x).2 (.inr ⟨g1, g2⟩), g3⟩
  ·rintro ⟨x, g1, g2⟩
   rcases (InS_take_succ hx x).1 g1 with g | g
   ·exact .inl ⟨x, g, g2⟩
   ·exact .inr ⟨x, g.1, g.2, g2⟩
 ·rcases List.mem_append.1 hp with g | g
  ·exact h.2 p g
  ·exact hb p g
theorem ImInv.one {D T : Int} {m : List Sp} {o : List Sp} {k : Nat} {x1 x2 : Int} (hD : 1 ≤ D) (hT : 1 ≤ T) (h : ImInv D T (m.take k) o) (hx : m[k]? = some (x1, x2)) (hxx : x1 ≤ x2)
  (hs : x2 / D - x1 / D < T - 1) (hle : x1 / D % T ≤ x2 / D % T) : ImInv D T (m.take (k + 1)) (o ++ [(x1 / D % T, x2 / D % T)]) := by
 have a0 := Int.emod_nonneg (x1 / D) (b := T) (by omega)
 have b1 := Int.emod_lt_of_pos (x2 / D) (b := T) (by omega)
 refine h.next hx (fun v => ?_) (fun p hp => by simp at hp; subst hp; simp only; omega)
 rw [InS_one, im_span hD hxx, res_span hT (Int.ediv_le_ediv (by omega) hxx) hs, if_pos hle]
theorem ImInv.two {D T : Int} {m : List Sp} {o : List Sp} {k : Nat} {x1 x2 : Int} (hD : 1 ≤ D) (hT : 1 ≤ T) (h : ImInv D T (m.take k) o) (hx : m[k]? = some (x1, x2)) (hxx : x1 ≤ x2)
  (hs : x2 / D - x1 / D < T - 1) (hle : ¬ x1 / D % T ≤ x2 / D % T) : ImInv D T (m.take (k + 1)) (o ++ [(0, x2 / D % T), (x1 / D % T, T - 1)]) := by
 have a0 := Int.emod_nonneg (x1 / D) (b := T) (by omega)
 have a1 := Int.emod_lt_of_pos (x1 / D) (b := T) (by omega)
 have b0 := Int.emod_nonneg (x2 / D) (b := T) (by omega)
 have b1 := Int.emod_lt_of_pos (x2 / D) (b := T) (by omega)
 refine h.next hx (fun v => ?_) (fun p hp => by simp at hp; rcases hp with rfl | rfl <;> simp only <;> omega)
 rw [im_span hD hxx, res_span hT (Int.ediv_le_ediv (by omega) hxx) hs, if_neg hle]
 simp [InS]
theorem ImInv.full {D T : Int} {m : List Sp} {k : Nat} {x1 x2 : Int} (hD : 1 ≤ D) (hT : 1 ≤ T) (hx : m[k]? = some (x1, x2)) (hxx : x1 ≤ x2)
  (hs : T - 1 ≤ x2 / D - x1 / D) : ImInv D T m [(0, T - 1)] := by
 refine ⟨fun v => ?_, fun p hp => by simp at hp; subst hp; simp only; omega⟩
 rw [InS_one]
 constructor
 ·rintro ⟨h0, h1⟩
  obtain ⟨x, g1, g2, g3⟩ := (im_span hD hxx v).2 (res_all hT hs h0 (by omega))
  exact ⟨x, InS_of_mem (List.mem_of_getElem? hx) g1 g2, g3⟩
 ·rintro ⟨x, _, rfl⟩
  have := Int.emod_nonneg (x / D) (b := T) (by omega)
  have := Int.emod_lt_of_pos (x / D) (b := T) (by omega)
  omega
theorem nums_mem (r : List Sp) (x : Int) : x ∈ nums r ↔ InS r x := by
 rw [InS_iff]
 simp only [nums, List.mem_flatMap, numsOf, List.mem_map, List.mem_range]
 constructor
 ·rintro ⟨p, hp, i, hi, rfl⟩
  exact ⟨p, hp, by omega, by omega⟩
 ·rintro ⟨p, hp, h1, h2⟩
  exact ⟨p, hp, (x - p.1).toNat, by omega, by omega⟩
def ImgS (d t u : Int) (a : List Sp) (v : Int) : Prop := bitsB d t u = true ∧ ∃ x, Mem a x ∧ 0 ≤ x ∧ x ≤ 2097151 ∧ pval d t u x = v
def topM (a : List Sp) (x : Int) : Prop := Mem a x ∧ Mem [(0, 2097151)] x
theorem topM_iff (a : List Sp) (x : Int) : topM a x ↔ (Mem a x ∧ 0 ≤ x ∧ x ≤ 2097151) := by
 constructor
 ·rintro ⟨h, _, _, h3⟩
  exact ⟨h, (InS_one _ _ _).1 h3⟩
 ·rintro ⟨h, h3⟩
  exact ⟨h, h.1, h.2.1, (InS_one _ _ _).2 h3⟩
theorem rep_img (d t u : Int) (a : List Sp) : ∃ r, Hid (Rep r (ImgS d t u a)) := rep_all _ fun v ⟨hb, x, _, _, _, hv⟩ => by have := pval_bd hb x; omega
theorem ImInv.rep0 {d t : Int} {a m o r : List Sp} (hb : bitsB d t 0 = true) (hm : Rep m (topM a)) (h : ImInv (pw d) (pw t) m o) (hr : Rep r (Mem o)) : Rep r (ImgS d t 0 a) := by
 refine hr.congr fun v => ?_
 have ht := pw_le21 (n := t) (by have := (bitsB_iff _ _ _).1 hb; omega) (by have := (bitsB_iff _ _ _).1 hb; omega)
 have e : Mem o v ↔ InS o v := by
  refine ⟨fun h => h.2.2, fun hv => ?_⟩
  obtain ⟨p, hp, g1, g2⟩ := (InS_iff _ _).1 hv
  have := h.2 p hp
  exact ⟨by omega, by omega, hv⟩
 rw [e, h.1]
 unfold ImgS
 simp only [hm.2, topM_iff, hb, true_and, pval]
 have e0 : pw 0 = 1 := rfl
 simp only [e0, Int.mul_one, and_assoc]
theorem ImInv.repU {d t u : Int} {a m o r : List Sp} (hb : bitsB d t u = true) (hm : Rep m (topM a)) (h : ImInv (pw d) (pw t) m o) (hr : Rep r (Mem o)) {s : List Sp}
  (hs : Rep s (Mem ((nums r).map fun v => (v * pw u, v * pw u)))) : Rep s (ImgS d t u a) := by
 refine hs.congr fun v => ?_
 obtain ⟨b1, b2, b3, b4, b5, b6, b7⟩ := (bitsB_iff _ _ _).1 hb
 have ht := pw_le21 (n := t) (by omega) b4
 have e : ∀ y, InS r y ↔ InS o y := fun y => by
  rw [hr.2]
  refine ⟨fun h => h.2.2, fun hv => ?_⟩
  obtain ⟨p, hp, g1, g2⟩ := (InS_iff _ _).1 hv
  have := h.2 p hp
  exact ⟨by omega, by omega, hv⟩
 have e2 : InS ((nums r).map fun v => (v * pw u, v * pw u)) v ↔ ∃ y, InS r y ∧ y * pw u = v := by
  rw [InS_iff]
  constructor
  ·rintro ⟨p, hp, g1, g2⟩
   obtain ⟨y, hy, rfl⟩ := List.mem_map.1 hp
   exact ⟨y, (nums_mem r y).1 hy, by simp only at g1 g2; omega⟩
  ·rintro ⟨y, hy, rfl⟩
   exact ⟨_, List.mem_map.2 ⟨y, (nums_mem r y).2 hy, rfl⟩, Int.le_refl _, Int.le_refl _⟩
 have e3 : ImgS d t u a v ↔ ∃ y, InS r y ∧ y * pw u = v := by
  unfold ImgS
  constructor
  ·rintro ⟨_, x, hx, h0, h1, rfl⟩
   exact ⟨_, (e _).2 ((h.1 _).2 ⟨x, (hm.2 x).2 ((topM_iff a x).2 ⟨hx, h0, h1⟩), rfl⟩), rfl⟩
  ·rintro ⟨y, hy, rfl⟩
   obtain ⟨x, hx, rfl⟩ := (h.1 _).1 ((e _).1 hy)
   obtain ⟨g1, g2, g3⟩ := (topM_iff a x).1 ((hm.2 x).1 hx)
   exact ⟨hb, x, g1, g2, g3, rfl⟩
 rw [e3, ← e2]
 refine ⟨fun g => g.2.2, fun g => ⟨?_, ?_, g⟩⟩
 all_goals
  obtain ⟨_, x, _, _, _, hv⟩ := e3.2 (e2.1 g)
  have := pval_bd hb x
  omega
theorem PlainF.len_in {a lo hi : Int} {l : List Sp} (h : PlainF a l) (hlo : ∀ x, InS l x → lo ≤ x) (hhi : ∀ x, InS l x → x ≤ hi) (hle : lo ≤ hi + 1) : 2 * (l.length : Int) ≤ hi - lo + 2 := by
 induction l generalizing a lo with
 | nil => simp; omega
 | cons p l ih =>
  obtain ⟨h1, h2, h3, h4⟩ := h
  have g1 := hlo p.1 (.inl ⟨by omega, h2⟩)
  have g2 := hhi p.2 (.inl ⟨h2, by omega⟩)
  cases l with
  | nil => simp; omega
  | cons q l =>
   have g3 := hhi q.1 (.inr (.inl ⟨by omega, h4.2.1⟩))
   have g4 := h4.1
   have := ih h4 (lo := p.2 + 2) (fun x hx => by have := h4.low hx; omega) (fun x hx => hhi x (.inr hx)) (by omega)
   simp only [List.length_cons] at this ⊢
   omega
theorem topM_len {a m : List Sp} (h : Rep m (topM a)) : m.length ≤ 1048576 := by
 have := PlainF.len_in h.1 (lo := 0) (hi := 2097151) (fun x hx => ((topM_iff a x).1 ((h.2 x).1 hx)).2.1) (fun x hx => ((topM_iff a x).1 ((h.2 x).1 hx)).2.2) (by omega)
 omega
theorem topM_mem {a m : List Sp} (h : Rep m (topM a)) {k : Nat} {x1 x2 : Int} (hk : m[k]? = some (x1, x2)) : 0 ≤ x1 ∧ x1 ≤ x2 ∧ x2 ≤ 2097151 := by
 have hp := PlainF.mem h.1 (List.mem_of_getElem? hk)
 have h12 : x1 ≤ x2 := by simp only at hp; omega
 have g1 := (topM_iff a x1).1 ((h.2 x1).1 (InS_of_mem (List.mem_of_getElem? hk) (Int.le_refl _) h12))
 have g2 := (topM_iff a x2).1 ((h.2 x2).1 (InS_of_mem (List.mem_of_getElem? hk) h12 (Int.le_refl _)))
 omega
section
open Go.Shelf
attribute [local go_sem] Oper.semAt_some
def PBox (S : Nat) (a d t u : Int) (W : World) : Prop := W.cell? ⟨S, 0, none⟩ = some (.int .i64 a) ∧ W.cell? ⟨S, 1, none⟩ = some (.int .i64 d) ∧ W.cell? ⟨S, 2, none⟩ = some (.int .i64 t) ∧ W.cell? ⟨S, 3, none⟩ = some (.int .i64 u)
theorem St.pbox {w0 w : World} {F : World → Prop} (hK : Hid (St w0 w F)) (a d t u : Int) : Hid (St w0 (w.alloc (.cells #[.int .i64 a, .int .i64 d, .int .i64 t, .int .i64 u] 70)) (fun W => PBox w.heap.size a d t u W ∧ F W)) := by
 refine Lh (hK.out.add ((Below.refl _ _).alloc (Nat.le_refl _) _) (fun W hW => ?_))
 have hb := heap_alloc_new w (.cells #[.int .i64 a, .int .i64 d, .int .i64 t, .int .i64 u] 70)
 have key : ∀ j v, (#[.int .i64 a, .int .i64 d, .int .i64 t, .int .i64 u] : Array Value)[j]? = some v → W.cell? ⟨w.heap.size, j, none⟩ = some v := by
  intro j v hj
  rw [hW.cell (p := ⟨w.heap.size, j, none⟩) (by simp)]
  simp only [World.cell?, hb]
  exact hj
 exact ⟨key 0 _ rfl, key 1 _ rfl, key 2 _ rfl, key 3 _ rfl⟩
theorem bits_st {w0 w : World} {F : World → Prop} (hK : Hid (St w0 w F)) (a d t u : Int) {v : Bool} (hv : bitsB d t u = v) : Calls Tryz.prog 209 #[.agg #[.int .i64 a, .int .i64 d, .int .i64 t, .int .i64 u]] w (RetV w0 (.bool v) F) := by
 subst hv; exact retV_gives hK (bits_any a d t u w)
def shlV (u v : Int) : Int := IntKind.i64.wrap (v * 2 ^ u.toNat)
theorem rep_none {r : List Sp} {S : Int → Prop} (h : Rep r S) (hS : ∀ x, ¬ S x) : r = [] :=
 Rep.unique h (S := S) (T := fun _ => False) ⟨trivial, fun x => Iff.rfl⟩ (fun x => by simp [hS x])
theorem retL_nil {w0 w : World} {F : World → Prop} (hK : Hid (St w0 w F)) : RetL w0 [] F (.returned (.slice none 0 0)) w :=
 ⟨none, 0, rfl, Lh (hK.out.weaken fun W h => ⟨⟨Sl.nil_ _ _ _, fun p hp => (by cases hp), by simp⟩, h⟩)⟩
theorem band_T {t lo T : Int} (hT : Hid (pw t = T)) (h0 : 0 ≤ lo) (h1 : lo ≤ 2097151) (t0 : 0 ≤ t) (t1 : t ≤ 21) : bits .and .i64 lo (T - 1) = lo % T := by
 rw [← hT.out]; exact band_mask h0 (by omega) t0 t1
section
variable {w0 w : World} {F : World → Prop} {A : Option Addr} {a0 r : List Sp}
theorem Image_st (hK : Hid (St w0 w F)) (ha : ∀ W, F W → Lst A a0 W) (c : Nat) (a d t u : Int) (hr : Hid (Rep r (ImgS d t u a0))) :
  Calls Tryz.prog 230 #[.agg #[.int .i64 a, .int .i64 d, .int .i64 t, .int .i64 u], .slice A a0.length c] w (RetL w0 r F) := by
 have HK := St.pbox hK a d t u
 rcases hb : bitsB d t u with _ | _
 ·obtain rfl := rep_none hr.out (fun x h => by have := h.1; rw [hb] at this; cases this)
  have HBB := Lh hb
  clear hb
  go_enter Tryz.func230, Tryz.ntmps230
  go_wp2_with fail
  refine (bits_st HK a d t u HBB.out).mono ?_
  rintro e w1 ⟨rfl, HK⟩
  go_wp2_with fail
  go_ret
  exact retL_nil (Lh (HK.out.weaken fun W h => h.2))
 have HBB := Lh hb
 obtain ⟨b1, b2, b3, b4, b5, b6, b7⟩ := (bitsB_iff _ _ _).1 hb
 obtain ⟨m, Rm⟩ := rep_meet a0 [(0, 2097151)]
 have RM : Hid (Rep m (topM a0)) := Rm
 have hml := topM_len RM.out
 obtain ⟨T, hT⟩ : ∃ T, (2 : Int) ^ t.toNat = T := ⟨_, rfl⟩
 have HT : Hid (pw t = T) := Lh hT
 obtain ⟨D, hD⟩ : ∃ D, (2 : Int) ^ d.toNat = D := ⟨_, rfl⟩
 have HD : Hid (pw d = D) := Lh hD
 have hT1 : 1 ≤ T ∧ T ≤ 2097152 := by have h1 := pw_pos t; have h2 := pw_le21 (n := t) (by omega) b4; rw [HT.out] at h1 h2; exact ⟨h1, h2⟩
 have hD1 : 1 ≤ D := by have h1 := pw_pos d; rw [HD.out] at h1; exact h1
 obtain ⟨hT1, hT2⟩ := hT1
 clear hb b7
 refine (callsIn_wide (n := 8)).1 ?_
 refine callsIn_of_wp_marks Tryz.func230 rfl trivial ?_ rfl
 refine wpIn_wide.2 ?_
 simp only [Tryz.ntmps230, List.size_toArray, List.length_cons, List.length_nil, Nat.reduceAdd, Nat.reduceSub, Array.replicate_succ, Array.replicate_zero, List.push_toArray, List.append_toArray, List.nil_append, List.cons_append]
 go_wp2_with fail
 refine (bits_st HK a d t u HBB.out).mono ?_
 rintro e w1 ⟨rfl, HK⟩
 obtain ⟨hp0, hp1, hp2, hp3⟩ := HK.out.now.1
 go_wp2_with fail
 have HK := St.lit HK (0, 2097151) (by intro p hp; simp at hp; subst hp; simp)
 refine (Meet_st HK (fun _ h => ha _ h.2.2) (fun _ h => h.1) _ _ Rm).mono ?_
 rintro e w3 ⟨A1, c1, rfl, HK⟩
 clear hp0 hp1 hp2 hp3
 go_upto_block 0 with fail
 go_cut [6] from 13 (fun v wr => ∃ (o : List Sp) (Ao : Option Addr) (co : Nat), v = .slice Ao o.length co ∧ o.length ≤ 2097153 ∧ Hid (SRow wr w3.heap.size Ao co o) ∧ Hid (ImInv D T m o) ∧ Hid (Below w3.heap.size w3 wr))
 case first =>
  go_wp2_with fail
  go_loopw [6, 25] (fun v i wr => ∃ (k : Nat) (o : List Sp) (Ao : Option Addr) (co : Nat), k ≤ m.length ∧ i = .int .i64 k ∧ v = .slice Ao o.length co ∧ o.length ≤ 2 * k ∧ Hid (SRow wr w3.heap.size Ao co o) ∧ Hid (ImInv D T (m.take k) o) ∧ Hid (Below w3.heap.size w3 wr)) (fun _ i _ => m.length - (intOf i).toNat)
  case atStart => exact ⟨0, [], none, 0, Nat.zero_le _, rfl, rfl, by simp, Lh (SRow.start _ _), Lh (ImInv.start _ _), Lh (Below.refl _ _)⟩
  case round =>
  obtain ⟨k, o, Ao, co, hk, rfl, rfl, hol, HO, HI, HB⟩ := hrel
  have HS := Lh (HK.out.step HB.out)
  by_cases hlt : k < m.length
  ·obtain ⟨g, off, p, hA, hp, hc1, hc2⟩ := HS.out.now.1.sp.at_ hlt
   obtain ⟨x1, x2⟩ := p
   obtain ⟨hx0, hx12, hx2⟩ := topM_mem RM.out hp
   obtain ⟨hp0, hp1, hp2, hp3⟩ := HS.out.now.2.2.1
   have HP := Lh hp
   simp only at hc1 hc2
   obtain ⟨lo, hlo⟩ : ∃ z, x1 / D = z := ⟨_, rfl⟩
   obtain ⟨hi, hhi⟩ : ∃ z, x2 / D = z := ⟨_, rfl⟩
   have HLO := Lh hlo
   have HHI := Lh hhi
   have hlo0 : 0 ≤ lo := by rw [← hlo]; exact Int.ediv_nonneg hx0 (by omega)
   have hlh : lo ≤ hi := by rw [← hlo, ← hhi]; exact Int.ediv_le_ediv (by omega) hx12
   have hhi2 : hi ≤ 2097151 := by rw [← hhi]; exact Int.le_trans (Int.ediv_le_self _ (by omega)) hx2
   obtain ⟨la, hla⟩ : ∃ z, bits BinOp.and IntKind.i64 lo (T - 1) = z := ⟨_, rfl⟩
   obtain ⟨lb, hlb⟩ : ∃ z, bits BinOp.and IntKind.i64 hi (T - 1) = z := ⟨_, rfl⟩
   have HLA : Hid (lo % T = la) := by unfold Hid; rw [← hla]; exact (band_T HT hlo0 (by omega) (by omega) b4).symm
   have HLB : Hid (hi % T = lb) := by unfold Hid; rw [← hlb]; exact (band_T HT (by omega) hhi2 (by omega) b4).symm
   have hgw := lt_of_cell hc1
   have hbw := lt_of_cell hp1
   subst hA
   clear hp
   by_cases hfull : T - 1 ≤ hi - lo
   ·go_wp2_with (go_quiet (fail))
    go_meet
    case rel =>
     exact ⟨[(0, T - 1)], _, _, rfl, by simp, Lh (SRow.lit' (by simp) (by have := HB.out.size; simp; omega)), Lh (ImInv.full hD1 hT1 HP.out hx12 (by rw [HLO.out, HHI.out]; exact hfull)),
      Lh ((below_drewN (HB.out.alloc HB.out.size _) _).alloc (by have := HB.out.size; simp; omega) _)⟩
   ·have hnf : ¬ (T - 1 ≤ hi - lo) := hfull
    by_cases hle : la ≤ lb
    ·go_wp2_with (first | go_quiet (fail) | (at_builtin; go_must (refine wpList_pushS rfl _ _ rfl (((HO.out.alloc _).drewN _)) rfl (by first | rfl | (simp; rfl) | simp) (by omega) (by have := HB.out.size; simp; omega) ?_); intro l2 A2 c2 w5 HL2 HO2 HG2 _))
     have HI2 := Lh (HI.out.one hD1 hT1 HP.out hx12 (by rw [HLO.out, HHI.out]; omega) (by rw [HLO.out, HHI.out, HLA.out, HLB.out]; exact hle))
     rw [HLO.out, HHI.out, HLA.out, HLB.out, ← HL2.out] at HI2
     have hl2 : l2.length = o.length + 1 := by rw [HL2.out]; simp
     refine ⟨⟨k + 1, l2, A2, c2, by omega, by go_num, rfl, by omega, HO2, HI2, Lh (SRow.pushed (below_drewN (HB.out.alloc HB.out.size _) _) ((HO.out.alloc _).drewN _) (Nat.le_refl _) (by have := HB.out.size; simp; omega) HG2.out)⟩, by simp [intOf]; omega⟩
    ·go_wp2_with (first | go_quiet (fail) | (at_builtin; go_must (refine wpList_pushS2 rfl _ _ rfl (((HO.out.alloc _).drewN _)) rfl (by first | rfl | (simp; rfl) | simp) (by omega) (by have := HB.out.size; simp; omega) ?_); intro l2 A2 c2 w5 HL2 HO2 HG2 _))
     have HI2 := Lh (HI.out.two hD1 hT1 HP.out hx12 (by rw [HLO.out, HHI.out]; omega) (by rw [HLO.out, HHI.out, HLA.out, HLB.out]; exact hle))
     rw [HLO.out, HHI.out, HLA.out, HLB.out, ← HL2.out] at HI2
     have hl2 : l2.length = o.length + 2 := by rw [HL2.out]; simp
     refine ⟨⟨k + 1, l2, A2, c2, by omega, by go_num, rfl, by omega, HO2, HI2, Lh (SRow.pushed (below_drewN (HB.out.alloc HB.out.size _) _) ((HO.out.alloc _).drewN _) (Nat.le_refl _) (by have := HB.out.size; simp; omega) HG2.out)⟩, by simp [intOf]; omega⟩
  ·obtain rfl : k = m.length := by omega
   have hd : decide (m.length < m.length) = false := by simp
   have HIm := Lh HI.out
   rw [List.take_length] at HIm
   go_wp2_with fail
   go_meet
   case rel => exact ⟨o, Ao, co, rfl, by omega, HO, HIm, HB⟩
 case rest =>
  obtain ⟨o, Ao, co, rfl, hol, HO, HI, HB⟩ := hcut
  have hwd : SpW o := fun p hp => by have := HI.out.2 p hp; omega
  have HK4 := Lh (HK.out.add (G := fun W => True) HB.out (fun W hW => trivial))
  have HK := Lh (HK4.out.add (Below.refl _ _) (G := Lst Ao o) (fun W hW => ⟨HO.out.spans.below hW, hwd, by omega⟩))
  obtain ⟨ro, Ro⟩ := rep_norm o
  go_wp2_with fail
  refine (Norm_st HK (fun _ h => h.1) _ Ro).mono ?_
  rintro e w5 ⟨A5, c5, rfl, HK⟩
  obtain ⟨hp0, hp1, hp2, hp3⟩ := HK.out.now.2.2.2.2.2.1
  have hps := lt_of_cell hp3
  by_cases hu : u = 0
  ·subst hu
   have HIp : Hid (ImInv (pw d) (pw t) m o) := by unfold Hid; rw [HD.out, HT.out]; exact HI.out
   obtain rfl := Rep.unique (HIp.out.rep0 HBB.out RM.out Ro.out) hr.out (fun _ => Iff.rfl)
   go_wp2_with fail
   refine leaveM_nil (.slice A5 ro.length c5) (by simp [results, Tryz.f230, go_sem]) ?_
   exact ⟨_, _, rfl, Lh (HK.out.weaken fun W h => ⟨h.1, h.2.2.2.2.2.2⟩)⟩
  ·have hu0 : (u == 0) = false := by simpa using hu
   have hnl : (nums ro).length ≤ 2147483650 := by have h1 := nums_length Ro.out.1; have h2 := Ro.out.1.cnt_bd; omega
   have hSr : Hid (Rep ro (Mem ro)) := Lh (Rep.self Ro.out.1)
   have HW5 := Lh ((Below.refl w5.heap.size w5).alloc (Nat.le_refl _) (.cells #[.slice none 0 0] 103))
   have HBN := Lh (BoxRow.new w5 (w5.heap.size + 1))
   have HKA := Lh (HK.out.add HW5.out (G := fun W => True) (fun _ _ => trivial))
   have HE := Lh (Each_any A5 ro.length c5 ro ro (w5.alloc (.cells #[.slice none 0 0] 103)) HKA.out.now.2.1.sp HKA.out.now.2.1.wd HKA.out.now.2.1.len hSr.out)
   go_wp2_with fail
   refine HE.out.mono ?_
   rintro e w6 ⟨B, g, c6, rfl, hbd, hcB, hsp, hb6⟩
   have HB6 := Lh (show Below w5.heap.size w5 w6 from HW5.out.trans (hb6.mono (by simp)))
   have hsz : (w5.alloc (.cells #[.slice none 0 0] 103)).heap.size = w5.heap.size + 1 := by simp
   rw [hsz] at hbd
   obtain ⟨Ab, cb, hbx, hbf, hbr⟩ := HBN.out
   have hbx6 := (hb6.cell (lt_of_cell hbx)).trans hbx
   have hbf6 := (hb6.frozen (lt_of_cell hbx)).trans hbf
   have HB0 : Hid (BoxRow w5.heap.size (w5.heap.size + 1) [] w6) := by
    refine ⟨none, 0, ?_, hbf6, SRow.start _ _⟩
    rw [hb6.cell (p := ⟨w5.heap.size, 0, none⟩) (by simp)]
    have hb := heap_alloc_new w5 (.cells #[.slice none 0 0] 103)
    simp only [World.cell?, hb]; rfl
   have hno : ∀ k, OwnB w5.heap.size (w5.heap.size + 1) w5.heap.size w6 k ↔ k = w5.heap.size := by
    intro k
    obtain ⟨A0, c0, q1, _, q3⟩ := HB0.out
    have : w6.cell? ⟨w5.heap.size, 0, none⟩ = some (.slice none 0 0) := by
     rw [hb6.cell (p := ⟨w5.heap.size, 0, none⟩) (by simp)]
     have hb := heap_alloc_new w5 (.cells #[.slice none 0 0] 103)
     simp only [World.cell?, hb]; rfl
    unfold OwnB
    rw [this]
    simp; omega
   have HSQ := Lh (each_stops Fence.wide 7 trivial rfl (by omega) w5.heap.size (w5.heap.size + 1) w5.heap.size B g c6 ro hSr.out.1 w6 (by omega) (fun k hk => by have := (hno k).1 hk; omega) (fun hk => by have := (hno g).1 hk; omega) hcB (by omega) hsp)
   clear hno hcB hsp hb6 HE hbx hbf hbx6 hbf6 hbr
   go_wp2_with fail
   refine wp_rangeFunc (gf := 249) (lb := #[.pointer (some ⟨B, 0, none⟩)]) rfl (enters_of Tryz.func249 (by kernel_rfl) rfl) HSQ.out kpB_t (kpB_b (by omega)) (fun _ => rfl)
    (fun pre W => BoxRow w5.heap.size (w5.heap.size + 1) (pre.map fun v => (shlV u v, shlV u v)) W ∧ (pre.length ≤ (nums ro).length ∧ Below w5.heap.size w5 W))
    (fun _ _ _ => False)
    (OwnFrom.and (BoxRow.own _ _ _ _) (OwnFrom.and (ownFrom_pure _ _) (ownFrom_below (Nat.le_refl _) (by omega))))
    (fun _ _ _ _ _ h _ _ => h)
    ⟨HB0.out, Nat.zero_le _, HB6.out⟩
    ?act ?assign ?body ?done ?stop
   case assign =>
    intro l x W K hK
    gi_wp2
    exact hK
   case body =>
    rintro l pre x W ⟨hbr, hlen1, hbW⟩ hlen
    obtain ⟨Ab, cb, hv, hf, hrow⟩ := hbr
    obtain ⟨hp0, hp1, hp2, hp3⟩ := (HK.out.step hbW).now.2.2.2.2.2.1
    gi_wp2
    obtain ⟨y, hy⟩ : ∃ y, IntKind.i64.wrap (x * 2 ^ u.toNat) = y := ⟨_, rfl⟩
    obtain ⟨o, ho⟩ : ∃ o, o = pre.map fun v => (shlV u v, shlV u v) := ⟨_, rfl⟩
    rw [← ho] at hv hrow
    have hol : o.length < 1099511627776 := by rw [ho, List.length_map]; omega
    have HOE := Lh ho
    have HROW := Lh hrow
    have HBW := Lh hbW
    clear ho hrow hbW
    refine region_round_held (by kernel_rfl) (fun _ _ h => h) (by kernel_rfl) (fun w' => w'.cell? ⟨w.heap.size, 3, none⟩ = some (.int .i64 u)) hp3 (fun hHeld => ?_)
    refine wpAnyH_take (i := 1) (v := ?_) rfl (by kernel_rfl) (by kernel_rfl) (by kernel_rfl) (fun _ _ _ h => h) (Or.inl ⟨by first | kernel_rfl | rfl, ?_⟩) (by assumption) ?_
    rotate_left
    ·intro w hSw; (try dsimp only at hSw); go_simp; (try with_reducible rfl)
    (try simp only [Act.put, zq1, zq2, zq3, zq4, zq5, zq6])
    refine wpAnyH_take (i := 2) (v := ?_) rfl (by kernel_rfl) (by kernel_rfl) (by kernel_rfl) (fun _ _ _ h => h) (Or.inl ⟨by first | kernel_rfl | rfl, ?_⟩) (by assumption) ?_
    rotate_left
    ·intro w hSw; (try dsimp only at hSw); go_simp; (try with_reducible rfl)
    (try simp only [Act.put, zq1, zq2, zq3, zq4, zq5, zq6])
    refine wpAnyH_take (i := 3) (v := ?_) rfl (by kernel_rfl) (by kernel_rfl) (by kernel_rfl) (fun _ _ _ h => h) (Or.inl ⟨by first | kernel_rfl | rfl, ?_⟩) (by assumption) ?_
    rotate_left
    ·intro w hSw; (try dsimp only at hSw); go_simp; (try with_reducible rfl)
    (try simp only [Act.put, zq1, zq2, zq3, zq4, zq5, zq6])
    refine wpAnyH_take (i := 4) (v := ?_) rfl (by kernel_rfl) (by kernel_rfl) (by kernel_rfl) (fun _ _ _ h => h) (Or.inl ⟨by first | kernel_rfl | rfl, ?_⟩) (by assumption) ?_
    rotate_left
    ·intro w hSw; (try dsimp only at hSw); go_simp; (try with_reducible rfl)
    (try simp only [Act.put, zq1, zq2, zq3, zq4, zq5, zq6])
    refine wpAnyH_take (i := 5) (v := ?_) rfl (by kernel_rfl) (by kernel_rfl) (by kernel_rfl) (fun _ _ _ h => h) (Or.inl ⟨by first | kernel_rfl | rfl, ?_⟩) (by assumption) ?_
    rotate_left
    ·intro w hSw; (try dsimp only at hSw); go_simp; (try with_reducible rfl)
    (try simp only [Act.put, zq1, zq2, zq3, zq4, zq5, zq6])
    refine wpAnyH_take (i := 6) (v := ?_) rfl (by kernel_rfl) (by kernel_rfl) (by kernel_rfl) (fun _ _ _ h => h) (Or.inl ⟨by first | kernel_rfl | rfl, ?_⟩) (by assumption) ?_
    rotate_left
    ·intro w hSw; (try dsimp only at hSw); go_simp; (try with_reducible rfl)
    (try simp only [Act.put, zq1, zq2, zq3, zq4, zq5, zq6])
    refine wpAnyH_take (i := 7) (v := ?_) rfl (by kernel_rfl) (by kernel_rfl) (by kernel_rfl) (fun _ _ _ h => h) (Or.inl ⟨by first | kernel_rfl | rfl, ?_⟩) (by assumption) ?_
    rotate_left
    ·intro w hSw; (try dsimp only at hSw); go_simp; (try with_reducible rfl)
    (try simp only [Act.put, zq1, zq2, zq3, zq4, zq5, zq6])
    refine wpAnyH_take (i := 8) (v := ?_) rfl (by kernel_rfl) (by kernel_rfl) (by kernel_rfl) (fun _ _ _ h => h) (Or.inl ⟨by first | kernel_rfl | rfl, ?_⟩) (by assumption) ?_
    rotate_left
    ·intro w hSw; (try dsimp only at hSw); go_simp; (try with_reducible rfl)
    (try simp only [Act.put, zq1, zq2, zq3, zq4, zq5, zq6])
    refine wpAnyH_take (i := 9) (v := ?_) rfl (by kernel_rfl) (by kernel_rfl) (by kernel_rfl) (fun _ _ _ h => h) (Or.inl ⟨by first | kernel_rfl | rfl, ?_⟩) (by assumption) ?_
    rotate_left
    ·intro w hSw; (try dsimp only at hSw); go_simp; (try with_reducible rfl)
    (try simp only [Act.put, zq1, zq2, zq3, zq4, zq5, zq6])
    refine wpAnyH_ready (rs := [0, 10]) (by kernel_rfl) (by simp) (AllReadyH.cons rfl (fun K hK => ?_) (AllReadyH.cons rfl (fun K hK => ?_) AllReadyH.nil))
    go_simp
    refine hK.out _ _ (hp3) (fun hHeld => ?_)
    clear hK K
    (try simp only [Act.put, zq1, zq2, zq3, zq4, zq5, zq6])
    refine wpAnyH_ready (rs := [10]) (by kernel_rfl) (by simp) (AllReadyH.cons rfl (fun K hK => ?_) AllReadyH.nil)
    go_simp
    refine hK.out _ _ (cellAlloc _ hp3) (fun hHeld => ?_)
    clear hK K
    (try simp only [Act.put, zq1, zq2, zq3, zq4, zq5, zq6])
    rotate_left
    go_simp
    refine hK.out _ _ (cellAlloc _ hp3) (fun hHeld => ?_)
    clear hK K
    (try simp only [Act.put, zq1, zq2, zq3, zq4, zq5, zq6])
    have hva : (W.alloc (.cells #[.int .i64 y, .int .i64 y] 129)).cell? ⟨w5.heap.size, 0, none⟩ = some (.slice Ab o.length cb) := cellAlloc _ hv
    refine wpAnyH_ready (rs := [0]) (by kernel_rfl) (by simp) (AllReadyH.cons rfl (fun K hK => ?_) AllReadyH.nil)
    go_simp
    refine hK.out _ _ (cellAlloc _ hp3) (fun hHeld => ?_)
    clear hK K
    (try simp only [Act.put, zq1, zq2, zq3, zq4, zq5, zq6])
    clear hva
    all_goals
     refine wpAnyH_ready (rs := [11]) (by kernel_rfl) (by simp) (AllReadyH.cons rfl (fun K hK => ?_) AllReadyH.nil)
     rw [if_pos (by rfl)]
     refine wp_pushS (w0 := W.drew) rfl _ _ rfl HROW.out.drew rfl rfl hol (by have := lt_of_cell hv; simp; omega) ?_
     intro l2 A2 c2 w7 HL2 HO2 HG2 HAT2
     have HPU := Lh (BoxRow.push (lo := w5.heap.size) (hi := w5.heap.size + 1) (Nat.le_refl _) (by omega) (Nat.le_refl _) hv hf HROW.out (w0 := W.drew) (ob := .cells #[.int .i64 y, .int .i64 y] 129) (below_drewN (Below.refl _ _) 1) rfl HO2.out HG2.out HAT2.out)
     have hbx7 : w7.cell? ⟨w5.heap.size, 0, none⟩ = some (.slice Ab o.length cb) := by
      refine HG2.out.cell (cellAlloc _ hv) (fun e => ?_)
      have := HROW.out.lt _ e.symm
      simp at this; omega
     have hbf7 : w7.frozen? ⟨w5.heap.size, 0, none⟩ = false := by
      have := HPU.out.2.2.1
      obtain ⟨A8, c8, q1, q2, q3⟩ := this
      rwa [World.frozen?_setCell] at q2
     have hpx7 : w7.cell? ⟨w.heap.size, 3, none⟩ = some (.int .i64 u) := by
      refine HG2.out.cell (cellAlloc _ hp3) (fun e => ?_)
      have := HROW.out.lt _ e.symm
      simp at *; omega
     have hpx8 : (w7.setCell ⟨w5.heap.size, 0, none⟩ (.slice A2 l2.length c2)).cell? ⟨w.heap.size, 3, none⟩ = some (.int .i64 u) := by
      rw [World.cell?_setCell_far _ _ _ _ (by show w5.heap.size ≠ w.heap.size; omega)]; exact hpx7
     refine hK.out _ _ (hpx7) (fun hHeld => ?_)
     clear hK K
     (try simp only [Act.put, zq1, zq2, zq3, zq4, zq5, zq6])
     refine wpAnyH_ready (rs := [12]) (by kernel_rfl) (by simp) (AllReadyH.cons rfl (fun K hK => ?_) AllReadyH.nil)
     go_simp
     refine hK.out _ _ (hpx8) (fun hHeld => ?_)
     clear hK K
     (try simp only [Act.put, zq1, zq2, zq3, zq4, zq5, zq6])
     refine wpAnyH_done (by kernel_rfl) ?_ _
     gi_wp2
     obtain ⟨q1, q2, q3, q4⟩ := HPU.out
     have e : l2 = (pre ++ [x]).map fun v => (shlV u v, shlV u v) := by rw [HL2.out, HOE.out, List.map_append, ← hy]; rfl
     refine ⟨q1, q2, ?_, by simp; omega, HBW.out.trans q4⟩
     show BoxRow _ _ ((pre ++ [x]).map fun v => (shlV u v, shlV u v)) _
     rw [← e]; exact q3
   case done =>
    rintro D' xs W hD' rfl ⟨hbr, hlen1, hbW⟩ hKD
    obtain ⟨Ab, cb, hv, hf, hrow⟩ := hbr
    have hnr : ∀ y ∈ nums ro, 0 ≤ y ∧ y ≤ 63 := by
     intro y hy
     have h1 := (nums_mem ro y).1 hy
     have h2 := (Ro.out.2 y).1 h1
     obtain ⟨p, hp, g1, g2⟩ := (InS_iff _ _).1 h2.2.2
     have h3 := HI.out.2 p hp
     have ht6 : t ≤ 6 := by have := (bitsB_iff _ _ _).1 HBB.out; omega
     have h4 := pw_le6 (n := t) (by omega) ht6
     rw [HT.out] at h4
     omega
    have e : ((nums ro).map fun v => (shlV u v, shlV u v)) = (nums ro).map fun v => (v * pw u, v * pw u) := by
     refine List.map_congr_left fun y hy => ?_
     have h1 := hnr y hy
     have h2 := pw_le21 (n := u) (by omega) (by omega)
     have h3 := pw_pos u
     have h4 : y * pw u ≤ 63 * 2097152 := Int.mul_le_mul h1.2 h2 (by omega) (by omega)
     have h5 : 0 ≤ y * pw u := Int.mul_nonneg h1.1 (by omega)
     have : shlV u y = y * pw u := IntWalk.i64_in _ (by show _ ∧ _; unfold pw at h4 h5; omega)
     rw [this]
    rw [e] at hv hrow
    obtain ⟨lu, hlu⟩ : ∃ l, ((nums ro).map fun v => (v * pw u, v * pw u)) = l := ⟨_, rfl⟩
    rw [hlu] at hv hrow
    have hwu : SpW lu := by
     intro p hp
     rw [← hlu] at hp
     obtain ⟨y, hy, rfl⟩ := List.mem_map.1 hp
     have h1 := hnr y hy
     have h2 := pw_le21 (n := u) (by omega) (by omega)
     have h3 := pw_pos u
     have h4 : y * pw u ≤ 63 * 2097152 := Int.mul_le_mul h1.2 h2 (by omega) (by omega)
     have h5 : 0 ≤ y * pw u := Int.mul_nonneg h1.1 (by omega)
     simp only
     omega
    have hll : lu.length < 137438953472 := by rw [← hlu, List.length_map]; omega
    have hDW : D' < W.heap.size := (Array.getElem?_eq_some_iff.1 hKD).1
    obtain ⟨s, Rs⟩ := rep_norm lu
    have HK7 := Lh ((HK.out.step hbW).add (Below.refl _ _) (G := fun W' => Lst Ab lu W' ∧ Below w5.heap.size w5 W' ∧ W'.heap[D']? = some (.deferred (some []))) (fun W' hW' => ⟨⟨hrow.spans.below hW', hwu, hll⟩, hbW.trans (hW'.mono hbW.size), (hW'.block D' hDW).trans hKD⟩))
    have HS := Lh hlu
    have hlt := lt_of_cell hv
    clear e hlu hKD hbW hrow hDW
    go_wp2_with fail
    refine (Norm_st HK7 (fun _ h => h.1.1) _ Rs).mono ?_
    rintro e w8 ⟨A8, c8, rfl, HK8⟩
    go_wp2_with fail
    have hn8 := HK8.out.now
    refine leaveM_mark (.slice A8 s.length c8) hn8.2.1.2.2 (fun w' => by simp [results, Tryz.f230, go_sem]) ?_
    have HIp : Hid (ImInv (pw d) (pw t) m o) := by unfold Hid; rw [HD.out, HT.out]; exact HI.out
    obtain rfl := Rep.unique (HIp.out.repU HBB.out RM.out Ro.out (by rw [HS.out]; exact Rs.out)) hr.out (fun _ => Iff.rfl)
    exact ⟨_, _, rfl, Lh ((HK.out.mark hn8.2.1.2.1 hn8.1 (by omega) hn8.2.1.2.2).weaken fun W h => ⟨h.1, h.2.2.2.2.2.2.2⟩)⟩
   case stop =>
    rintro D cd pre W hD hpre hF
    exact hF.elim
end
end
section
theorem outS_iff {t : TermL} (hn : NumsOk t) {gs : List (List Sp)} {r r3 : List Sp} (hr : Rep r (InnS t gs)) (hok : InRange t gs) (h3 : Rep r3 (ImgS t.drop t.take t.up r)) (y : Int) :
  OutS t gs y ↔ (-1073741824 ≤ y ∧ y ≤ 1073741824 ∧ Mem r3 (y - t.base)) := by
 rw [h3.mem]
 constructor
 ·intro h
  have hb := outS_bd hn h
  obtain ⟨w, hw, rfl⟩ := h
  refine ⟨hb.1, hb.2, bitsOk_b hn.2.2.1, innerT t w, (hr.mem _).2 ⟨w, hw, rfl⟩, ?_⟩
  have := hok _ ⟨w, hw, rfl⟩
  exact ⟨by omega, by omega, by omega⟩
 ·rintro ⟨_, _, _, x, hx, _, _, hv⟩
  obtain ⟨w, hw, rfl⟩ := (hr.mem x).1 hx
  exact ⟨w, hw, by omega⟩
section
variable {w0 w : World} {F : World → Prop}
theorem tImage_st (hK : Hid (St w0 w F)) {A : Option Addr} {l : List PartL} (hp : ∀ W, F W → PartsAt A l W) (b d t u s : Int) (c : Nat) {B : Option Addr} {O : List (Item Sp)} (hb : ∀ W, F W → LLx B O W) (cb : Nat)
  (h4 : O.length ≤ 4) (hn : Hid (NumsOk ⟨b, d, t, u, s, l⟩)) (hpo : Hid (∀ p ∈ l, PartOk O.length p)) (r2 : List Sp) (hr2 : Hid (Rep r2 (OutS ⟨b, d, t, u, s, l⟩ (bodies O)))) (ok : Bool) (hok : Hid (pB (InRange ⟨b, d, t, u, s, l⟩ (bodies O)) = ok)) (hst : StageP l) :
  Calls Tryz.prog 211 #[.agg #[.int .i64 b, .int .i64 d, .int .i64 t, .int .i64 u, .int .i64 s, .slice A l.length c], .slice B O.length cb] w (fun e w' => if ok = true then RetLB2 w0 r2 true F e w' else RetLB2 w0 [] false F e w') := by
 have HP := Lh hp
 have HB := Lh hb
 have HK := St.box hK [.int .i64 b, .int .i64 d, .int .i64 t, .int .i64 u, .int .i64 s, .slice A l.length c] 68
 obtain ⟨q0, q1, q2, q3, q4, q5⟩ := HK.out.now.1.c6
 obtain ⟨r, hr⟩ := rep_inn hn.out (bodies O)
 clear hp hb
 go_enter Tryz.func211, Tryz.ntmps211
 go_wp2_with fail
 refine (inner_st HK (fun _ h => HP.out _ h.2) b d t u s c (fun _ h => HB.out _ h.2) cb h4 hn hpo r hr ok hok hst).mono ?_
 rintro e w1 ⟨A1, c1, rfl, HK1⟩
 clear q0 q1 q2 q3 q4 q5 HK
 rcases ok with _ | _
 ·go_wp2_with fail
  go_ret2
  exact ⟨none, 0, rfl, Lh (HK1.out.weaken fun W h => ⟨lst_nil W, h.2.2⟩)⟩
 have HRG : Hid (InRange ⟨b, d, t, u, s, l⟩ (bodies O)) := Lh (pB_iff.1 hok.out)
 by_cases hre : r = []
 ·subst hre
  have h0 : Rep [] (OutS ⟨b, d, t, u, s, l⟩ (bodies O)) := ⟨by simp [Plain, PlainF], fun y => by
   simp only [InS, false_iff]
   rintro ⟨w, hw, _⟩
   exact rep_nil hr.out _ ⟨w, hw, rfl⟩⟩
  obtain rfl := Rep.unique hr2.out h0 (fun _ => Iff.rfl)
  go_wp2_with fail
  go_ret2
  exact ⟨none, 0, rfl, Lh (HK1.out.weaken fun W h => ⟨lst_nil W, h.2.2⟩)⟩
 have hrl : ((r.length : Int) == 0) = false := by
  rw [beq_eq_false_iff_ne]
  intro h
  exact hre (List.eq_nil_of_length_eq_zero (by omega))
 obtain ⟨r3, HR3⟩ := rep_img d t u r
 have HR4 : Hid (Rep r2 (fun y => -1073741824 ≤ y ∧ y ≤ 1073741824 ∧ Mem r3 (y - b))) := Lh (hr2.out.congr fun y => outS_iff hn.out hr.out HRG.out HR3.out y)
 clear hre
 go_wp2_with fail
 have HK2 := St.hdrewN HK1 1
 go_region_held3 (fun W => W.cell? ⟨w.heap.size, 0, none⟩ = some (.int .i64 b) ∧ W.cell? ⟨w.heap.size, 1, none⟩ = some (.int .i64 d) ∧ W.cell? ⟨w.heap.size, 2, none⟩ = some (.int .i64 t) ∧ W.cell? ⟨w.heap.size, 3, none⟩ = some (.int .i64 u) ∧ W.cell? ⟨w.heap.size, 4, none⟩ = some (.int .i64 s) ∧ W.cell? ⟨w.heap.size, 5, none⟩ = some (.slice A l.length c))
  (first | exact HK5.out.now.2.2.2.1.c6 | exact HK4.out.now.2.2.1.c6 | exact HK3.out.now.2.1.c6 | exact HK2.out.now.2.1.c6 | go_keep)
  ((first
   | (go_at_call 185; refine (retV_gives HK2 (outer_any b d t u s A l.length c _)).mono ?_; rintro e3 w3 ⟨rfl, HK3⟩)
   | (go_at_call 230; refine (Image_st HK3 (fun _ h => h.1) c1 0 d t u HR3).mono ?_; rintro e4 w4 ⟨A4, c4, rfl, HK4⟩)
   | (go_at_call 229; refine (Move_st HK4 (fun _ h => h.1) c4 HR4).mono ?_; rintro e5 w5 ⟨A5, c5, rfl, HK5⟩)))
 go_wp2_with fail
 go_ret2
 exact ⟨A5, c5, rfl, Lh (HK5.out.weaken fun W h => ⟨h.1, h.2.2.2.2⟩)⟩
theorem Fits_st (hK : Hid (St w0 w F)) {A : Option Addr} {l : List PartL} (hp : ∀ W, F W → PartsAt A l W) (b d t u s : Int) (c : Nat) (i o : Int) {B : Option Addr} {O : List (Item Sp)} (hb : ∀ W, F W → LLx B O W) (cb : Nat)
  (h4 : O.length ≤ 4) (v : Bool) (hv : Hid (pB (FitsP i o (bodies O) ⟨b, d, t, u, s, l⟩) = v)) (hst : StageP l) :
  Calls Tryz.prog 190 #[.agg #[.int .i64 b, .int .i64 d, .int .i64 t, .int .i64 u, .int .i64 s, .slice A l.length c], .int .i64 i, .int .i64 o, .slice B O.length cb] w (RetV w0 (.bool v) F) := by
 have HP := Lh hp
 have HB := Lh hb
 have HK := St.box hK [.int .i64 b, .int .i64 d, .int .i64 t, .int .i64 u, .int .i64 s, .slice A l.length c] 68
 obtain ⟨q0, q1, q2, q3, q4, q5⟩ := HK.out.now.1.c6
 have hbl : (bodies O).length = O.length := bodies_length O
 clear hp hb
 by_cases a1 : TermRt i o O.length ⟨b, d, t, u, s, l⟩
 case neg =>
  obtain rfl := pB_f hv (fun h => a1 (by have := h.1; rwa [hbl] at this))
  have H1 := Lh (pB_false a1)
  clear a1 hbl
  go_enter Tryz.func190, Tryz.ntmps190
  go_wp2_with fail
  refine (tRightG_st HK (fun _ h => HP.out _ h.2) b d t u s c i o O.length false H1).mono ?_
  rintro e w1 ⟨rfl, HK1⟩
  go_wp2_with fail
  go_ret
  exact ⟨rfl, Lh (HK1.out.weaken fun _ h => h.2)⟩
 have H1 := Lh (pB_true a1)
 have HN : Hid (NumsOk ⟨b, d, t, u, s, l⟩) := Lh a1.2.2.1
 have HPO : Hid (∀ p ∈ l, PartOk O.length p) := Lh fun p hp => (a1.2.2.2.1 p hp).1
 have HF : Hid (pB (InRange ⟨b, d, t, u, s, l⟩ (bodies O) ∧ ∀ y, OutS ⟨b, d, t, u, s, l⟩ (bodies O) y → InD o y) = v) := by
  unfold Hid
  rw [← hv.out]
  exact (pB_congr (fits_iff (by rw [hbl]; exact a1))).symm
 obtain ⟨ok, hok⟩ : ∃ ok, Hid (pB (InRange ⟨b, d, t, u, s, l⟩ (bodies O)) = ok) := ⟨_, rfl⟩
 obtain ⟨r2, hr2⟩ : ∃ r, Hid (Rep r (OutS ⟨b, d, t, u, s, l⟩ (bodies O))) := rep_all _ fun y h => outS_bd HN.out h
 clear a1 hbl
 go_enter Tryz.func190, Tryz.ntmps190
 go_wp2_with fail
 refine (tRightG_st HK (fun _ h => HP.out _ h.2) b d t u s c i o O.length true H1).mono ?_
 rintro e w1 ⟨rfl, HK1⟩
 clear q0 q1 q2 q3 q4 q5
 obtain ⟨q0, q1, q2, q3, q4, q5⟩ := HK1.out.now.1.c6
 go_wp2_with fail
 refine (tImage_st HK1 (fun _ h => HP.out _ h.2) b d t u s c (fun _ h => HB.out _ h.2) cb h4 HN HPO r2 hr2 ok hok hst).mono ?_
 intro e w2 hret
 rcases ok with _ | _
 ·obtain rfl := pB_f HF (fun h => by have := pB_true h.1; rw [hok.out] at this; cases this)
  obtain ⟨A2, c2, rfl, HK2⟩ := hret
  go_wp2_with fail
  go_ret
  exact ⟨rfl, Lh (HK2.out.weaken fun W h => h.2.2)⟩
 ·obtain ⟨A2, c2, rfl, HK2⟩ := hret
  have HW : Hid (pB (∀ x, Mem r2 x → Mem (domL o) x) = v) := by
   unfold Hid
   rw [← HF.out]
   refine pB_congr ⟨fun h => ⟨pB_iff.1 hok.out, fun y hy => (inD_mem o y).1 (h y ((hr2.out.mem y).2 hy))⟩, fun h x hx => (inD_mem o x).2 (h.2 x ((hr2.out.mem x).1 hx))⟩
  go_wp2_with fail
  refine (DomX_st HK2 o).mono ?_
  rintro e w3 ⟨A3, c3, rfl, HK3⟩
  go_wp2_with fail
  refine (Within_p HK3 (fun _ h => h.2.1) (fun _ h => h.1) c2 c3 v HW).mono ?_
  rintro e w4 ⟨rfl, HK4⟩
  go_wp2_with fail
  go_ret
  exact ⟨rfl, Lh (HK4.out.weaken fun W h => h.2.2.2)⟩
end
end
section
section
variable {w0 w : World} {F : World → Prop}
theorem state_st (hK : Hid (St w0 w F)) (i o n s : Int) (ra fa : Option Addr) (rl rc fl fc : Nat) (x : Int) (v : Bool) (hv : Hid (pB (StateOk n x) = v)) :
  Calls Tryz.prog 151 #[.agg #[.int .i64 i, .int .i64 o, .int .i64 n, .int .i64 s, .slice ra rl rc, .slice fa fl fc], .int .i64 x] w (RetV w0 (.bool v) F) := by
 have HK := St.box hK [.int .i64 i, .int .i64 o, .int .i64 n, .int .i64 s, .slice ra rl rc, .slice fa fl fc] 26
 by_cases h1 : 0 ≤ x
 case neg =>
  obtain rfl := pB_f hv (fun h => h1 h.1)
  go_enter Tryz.func151, Tryz.ntmps151
  go_wp2_with fail
  go_ret
  exact ⟨rfl, Lh (HK.out.weaken fun _ h => h.2)⟩
 by_cases h2 : x < n
 case neg =>
  obtain rfl := pB_f hv (fun h => h2 h.2)
  go_enter Tryz.func151, Tryz.ntmps151
  go_wp2_with fail
  go_ret
  exact ⟨rfl, Lh (HK.out.weaken fun _ h => h.2)⟩
 obtain rfl := pB_t hv ⟨h1, h2⟩
 go_enter Tryz.func151, Tryz.ntmps151
 go_wp2_with fail
 go_ret
 exact ⟨rfl, Lh (HK.out.weaken fun _ h => h.2)⟩
theorem dom_pos {s : Int} (h : SortOk s) : decide (0 < (domL s).length) = true := by
 rcases h with rfl | rfl <;> rfl
theorem dom_zero {s : Int} (h : ¬ SortOk s) : decide (0 < (domL s).length) = false := by
 rw [(domL_nil s).2 h]; rfl
def HeadP (i o n s : Int) (rl fl : Nat) : Prop := SortOk i ∧ SortOk o ∧ 1 ≤ n ∧ n ≤ 1024 ∧ StateOk n s ∧ rl ≤ 4096 ∧ fl ≤ 4096
theorem head_st (hK : Hid (St w0 w F)) (i o n s : Int) (ra fa : Option Addr) (rl rc fl fc : Nat) (v : Bool) (hv : Hid (pB (HeadP i o n s rl fl) = v)) :
  Calls Tryz.prog 149 #[.agg #[.int .i64 i, .int .i64 o, .int .i64 n, .int .i64 s, .slice ra rl rc, .slice fa fl fc]] w (RetV w0 (.bool v) F) := by
 have HK := St.box hK [.int .i64 i, .int .i64 o, .int .i64 n, .int .i64 s, .slice ra rl rc, .slice fa fl fc] 26
 by_cases s1 : SortOk i
 case neg =>
  have h1 := dom_zero s1
  obtain rfl := pB_f hv (fun h => s1 h.1)
  clear s1
  go_enter Tryz.func149, Tryz.ntmps149
  go_wp2_with fail
  refine (DomX_st HK i).mono ?_
  rintro e w1 ⟨A1, c1, rfl, HK1⟩
  go_wp2_with fail
  go_ret
  exact ⟨rfl, Lh (HK1.out.weaken fun _ h => h.2.2)⟩
 have h1 := dom_pos s1
 by_cases s2 : SortOk o
 case neg =>
  have h2 := dom_zero s2
  obtain rfl := pB_f hv (fun h => s2 h.2.1)
  clear s1 s2
  go_enter Tryz.func149, Tryz.ntmps149
  go_wp2_with fail
  refine (DomX_st HK i).mono ?_
  rintro e w1 ⟨A1, c1, rfl, HK1⟩
  obtain ⟨q0, q1, q2, q3, q4, q5⟩ := HK1.out.now.2.1.c6
  go_wp2_with fail
  refine (DomX_st HK1 o).mono ?_
  rintro e w2 ⟨A2, c2, rfl, HK2⟩
  go_wp2_with fail
  go_ret
  exact ⟨rfl, Lh (HK2.out.weaken fun _ h => h.2.2.2)⟩
 have h2 := dom_pos s2
 have HS := Lh (And.intro s1 s2)
 clear s1 s2
 go_enter Tryz.func149, Tryz.ntmps149
 go_wp2_with fail
 refine (DomX_st HK i).mono ?_
 rintro e w1 ⟨A1, c1, rfl, HK1⟩
 obtain ⟨q0, q1, q2, q3, q4, q5⟩ := HK1.out.now.2.1.c6
 go_wp2_with fail
 refine (DomX_st HK1 o).mono ?_
 rintro e w2 ⟨A2, c2, rfl, HK2⟩
 have HK2 : Hid (St w0 w2 (fun W => BoxC w.heap.size [.int .i64 i, .int .i64 o, .int .i64 n, .int .i64 s, .slice ra rl rc, .slice fa fl fc] W ∧ F W)) := Lh (HK2.out.weaken fun _ h => h.2.2)
 clear q0 q1 q2 q3 q4 q5 HK HK1
 obtain ⟨q0, q1, q2, q3, q4, q5⟩ := HK2.out.now.1.c6
 by_cases n1 : 1 ≤ n
 case neg =>
  obtain rfl := pB_f hv (fun h => n1 h.2.2.1)
  go_wp2_with fail
  go_ret
  exact ⟨rfl, Lh (HK2.out.weaken fun _ h => h.2)⟩
 by_cases n2 : n ≤ 1024
 case neg =>
  obtain rfl := pB_f hv (fun h => n2 h.2.2.2.1)
  go_wp2_with fail
  go_ret
  exact ⟨rfl, Lh (HK2.out.weaken fun _ h => h.2)⟩
 by_cases st : StateOk n s
 case neg =>
  obtain rfl := pB_f hv (fun h => st h.2.2.2.2.1)
  have H1 := Lh (pB_false st)
  clear st
  go_wp2_with fail
  refine (state_st HK2 i o n s ra fa rl rc fl fc s false H1).mono ?_
  rintro e w3 ⟨rfl, HK3⟩
  go_wp2_with fail
  go_ret
  exact ⟨rfl, Lh (HK3.out.weaken fun _ h => h.2)⟩
 have H1 := Lh (pB_true st)
 have HST := Lh st
 clear st
 go_wp2_with fail
 refine (state_st HK2 i o n s ra fa rl rc fl fc s true H1).mono ?_
 rintro e w3 ⟨rfl, HK3⟩
 clear q0 q1 q2 q3 q4 q5
 obtain ⟨q0, q1, q2, q3, q4, q5⟩ := HK3.out.now.1.c6
 by_cases r1 : (rl : Int) ≤ 4096
 case neg =>
  obtain rfl := pB_f hv (fun h => r1 (by have := h.2.2.2.2.2.1; omega))
  go_wp2_with fail
  go_ret
  exact ⟨rfl, Lh (HK3.out.weaken fun _ h => h.2)⟩
 by_cases f1 : (fl : Int) ≤ 4096
 case neg =>
  obtain rfl := pB_f hv (fun h => f1 (by have := h.2.2.2.2.2.2; omega))
  have f1' : decide ((fl : Int) ≤ 4096) = false := by simpa using f1
  go_wp2_with fail
  go_ret
  exact ⟨rfl, Lh (HK3.out.weaken fun _ h => h.2)⟩
 obtain rfl := pB_t hv ⟨HS.out.1, HS.out.2, n1, n2, HST.out, by omega, by omega⟩
 go_wp2_with fail
 go_ret
 exact ⟨rfl, Lh (HK3.out.weaken fun _ h => h.2)⟩
def WritesTo (i o : Int) (gs : List (List Sp)) (l : List TermI) (k : Nat) : Prop := ∀ t ∈ l.take k, FitsP i o gs t.L
theorem writes_st (hK : Hid (St w0 w F)) (i o n s : Int) (ra fa : Option Addr) (rl rc fl fc : Nat) {TA : Option Addr} {T : List TermI} (ht : ∀ W, F W → TermsAt TA T W) (tc : Nat) {B : Option Addr} {O : List (Item Sp)} (hb : ∀ W, F W → LLx B O W) (cb : Nat)
  (h4 : O.length ≤ 4) (v : Bool) (hv : Hid (pB (WritesOk i o (bodies O) (T.map TermI.L)) = v)) (hst : ∀ t ∈ T, StageP t.ps) :
  Calls Tryz.prog 153 #[.agg #[.int .i64 i, .int .i64 o, .int .i64 n, .int .i64 s, .slice ra rl rc, .slice fa fl fc], .slice TA T.length tc, .slice B O.length cb] w (RetV w0 (.bool v) F) := by
 have HT := Lh ht
 have HB := Lh hb
 have HST := Lh hst
 have hln := (ht _ hK.out.now).ln
 have HK := St.box hK [.int .i64 i, .int .i64 o, .int .i64 n, .int .i64 s, .slice ra rl rc, .slice fa fl fc] 26
 clear ht hb hst
 by_cases h64 : (T.length : Int) ≤ 64
 case neg =>
  obtain rfl := pB_f hv (fun h => h64 (by have := h.1; rw [List.length_map] at this; omega))
  go_enter Tryz.func153, Tryz.ntmps153
  go_wp2_with fail
  go_ret
  exact ⟨rfl, Lh (HK.out.weaken fun _ h => h.2)⟩
 go_enter Tryz.func153, Tryz.ntmps153
 go_wp2_with fail
 go_loopw [14] (fun iv wr => ∃ k : Nat, k ≤ T.length ∧ iv = .int .i64 k ∧ Hid (WritesTo i o (bodies O) T k) ∧ Hid (St w0 wr (fun W => BoxC w.heap.size [.int .i64 i, .int .i64 o, .int .i64 n, .int .i64 s, .slice ra rl rc, .slice fa fl fc] W ∧ F W))) (fun iv _ => T.length - (intOf iv).toNat)
 case atStart => exact ⟨0, Nat.zero_le _, rfl, Lh (fun g hg => by simp at hg), HK⟩
 case round =>
 clear HK
 obtain ⟨k, hk, rfl, HR, HK⟩ := hrel
 by_cases hlt : k < T.length
 ·obtain ⟨tb, off, t, rfl, hx, hw, hd0, hd1, hd2, hd3, hd4, hd5⟩ := (HT.out _ HK.out.now.2).at_ hlt
  have HX := Lh hx
  have HKt := Lh (HK.out.add (Below.refl _ _) (G := PartsAt t.pa t.ps) (fun W hW => hw.2.below hW))
  have HKp := St.box HKt (termC t) 68
  have hsp := HST.out t (List.mem_of_getElem? hx)
  have HBAD : ¬ FitsP i o (bodies O) t.L → v = false := fun h => pB_f hv (fun g => h (g.2 _ (List.mem_map.2 ⟨t, List.mem_of_getElem? HX.out, rfl⟩)))
  obtain ⟨b, d, tt, u, sm, pa, pc, ps⟩ := t
  simp only [termC] at hd0 hd1 hd2 hd3 hd4 hd5 HKp HKt hsp
  obtain ⟨q0, q1, q2, q3, q4, q5⟩ := HKp.out.now.2.2.1.c6
  have HSP := Lh hsp
  clear hx hw hsp
  by_cases a1 : FitsP i o (bodies O) ⟨b, d, tt, u, sm, ps⟩
  ·have H1 := Lh (pB_true a1)
   have HN : Hid (WritesTo i o (bodies O) T (k + 1)) := Lh fun q hq => by
    rw [take_snoc? HX.out] at hq
    rcases List.mem_append.1 hq with hq | hq
    ·exact HR.out q hq
    ·simp at hq; subst hq; exact a1
   clear a1 HBAD
   go_wp2_with fail
   refine (Fits_st HKp (fun _ h => h.2.1) b d tt u sm pc i o (fun _ h => HB.out _ h.2.2.2) cb h4 true H1 HSP.out).mono ?_
   rintro e w3 ⟨rfl, HK3⟩
   go_wp2_with fail
   go_roundw
   case rel => exact ⟨k + 1, by omega, by go_num, HN, Lh (HK3.out.weaken fun _ h => h.2.2)⟩
   case measure => simp [intOf]; omega
  ·have H1 := Lh (pB_false a1)
   obtain rfl := HBAD a1
   clear a1 HBAD
   go_wp2_with fail
   refine (Fits_st HKp (fun _ h => h.2.1) b d tt u sm pc i o (fun _ h => HB.out _ h.2.2.2) cb h4 false H1 HSP.out).mono ?_
   rintro e w3 ⟨rfl, HK3⟩
   go_wp2_with fail
   go_ret
   exact ⟨rfl, Lh (HK3.out.weaken fun _ h => h.2.2.2)⟩
 ·obtain rfl : k = T.length := by omega
  have hd : decide (T.length < T.length) = false := by simp
  obtain rfl := pB_t hv ⟨by rw [List.length_map]; omega, fun t ht => by
   obtain ⟨t', ht', rfl⟩ := List.mem_map.1 ht
   exact HR.out t' (by rwa [List.take_length])⟩
  go_wp2_with fail
  go_ret
  exact ⟨rfl, Lh (HK.out.weaken fun _ h => h.2)⟩
end
end
section
def OnTo (ls : List Int) (gs : List (List Sp)) (w : List Int) (k : Nat) : Prop := ∀ (j : Nat) g c, j < k → gs[j]? = some g → w[j]? = some c → hasB g (ls.getD c.toNat 0) = true
def OnG (ls : List Int) (gs : List (List Sp)) (w : List Int) : Prop := ∀ (j : Nat) g c, gs[j]? = some g → w[j]? = some c → hasB g (ls.getD c.toNat 0) = true
def ClsOk (ls : List Int) (w : List Int) : Prop := w.length ≤ 4 ∧ ∀ c ∈ w, 0 ≤ c ∧ c < ls.length
def wordC (w : List Int) : List Value := [.int .i64 w.length, .int .i64 (w.getD 0 0), .int .i64 (w.getD 1 0), .int .i64 (w.getD 2 0), .int .i64 (w.getD 3 0)]
theorem BoxC.word {b : Nat} {w : List Int} {W : World} (h : BoxC b (wordC w) W) {k : Nat} {c : Int} (hw : w.length ≤ 4) (hc : w[k]? = some c) : W.cell? ⟨b, 1 + k, none⟩ = some (.int .i64 c) := by
 have hk := (List.getElem?_eq_some_iff.1 hc).1
 have : k = 0 ∨ k = 1 ∨ k = 2 ∨ k = 3 := by omega
 have hg : w.getD k 0 = c := by rw [List.getD_eq_getElem?_getD, hc]; rfl
 rcases this with rfl | rfl | rfl | rfl
 ·exact h 1 _ (by simp only [wordC]; rw [← hg]; rfl)
 ·exact h 2 _ (by simp only [wordC]; rw [← hg]; rfl)
 ·exact h 3 _ (by simp only [wordC]; rw [← hg]; rfl)
 ·exact h 4 _ (by simp only [wordC]; rw [← hg]; rfl)
theorem getD_of {l : List Int} {k : Nat} {x : Int} (h : l[k]? = some x) : l.getD k 0 = x := by rw [List.getD_eq_getElem?_getD, h]; rfl
section
variable {w0 w : World} {F : World → Prop}
theorem has_st (hK : Hid (St w0 w F)) (mb : Nat) {la : Option Addr} {ls : List Int} {lc : Nat} (hm : ∀ W, F W → W.cell? ⟨mb, 6, none⟩ = some (.slice la ls.length lc) ∧ IntsAt la ls W) {A : Option Addr} {O : List (Item Sp)} (ha : ∀ W, F W → LLx A O W) (c : Nat) (wd : List Int) (c0 c1 c2 c3 : Int) (hwc : Hid (wordC wd = [.int .i64 wd.length, .int .i64 c0, .int .i64 c1, .int .i64 c2, .int .i64 c3])) (hw : Hid (ClsOk ls wd)) (v : Bool) (hv : Hid (pB (OnG ls (bodies O) wd) = v)) :
  Calls Tryz.prog 125 #[.pointer (some ⟨mb, 0, none⟩), .slice A O.length c, .agg #[.int .i64 wd.length, .int .i64 c0, .int .i64 c1, .int .i64 c2, .int .i64 c3]] w (RetV w0 (.bool v) F) := by
 have HM := Lh hm
 have HA := Lh ha
 have hln := (ha _ hK.out.now).2
 have HK := St.box hK [.int .i64 wd.length, .int .i64 c0, .int .i64 c1, .int .i64 c2, .int .i64 c3] 148
 obtain ⟨m, hm⟩ : ∃ m : Nat, min O.length wd.length = m := ⟨_, rfl⟩
 have hmm : min (O.length : Int) (wd.length : Int) = (m : Int) := by omega
 have HMN := Lh hm
 have HMM := Lh hmm
 have hw4 := hw.out.1
 have q0 := HK.out.now.1 0 _ rfl
 have HK : Hid (St w0 (w.alloc (.cells [.int .i64 wd.length, .int .i64 c0, .int .i64 c1, .int .i64 c2, .int .i64 c3].toArray 148)) (fun W => BoxC w.heap.size (wordC wd) W ∧ F W)) := by rw [hwc.out]; exact HK
 clear hm ha
 go_enter Tryz.func125, Tryz.ntmps125
 go_wp2_with fail
 clear q0 hmm
 go_loopw [13] (fun iv wr => ∃ k : Nat, k ≤ m ∧ iv = .int .i64 k ∧ Hid (OnTo ls (bodies O) wd k) ∧ Hid (St w0 wr (fun W => BoxC w.heap.size (wordC wd) W ∧ F W))) (fun iv _ => m - (intOf iv).toNat)
 case atStart => exact ⟨0, Nat.zero_le _, rfl, Lh (fun j s t hj => by omega), HK⟩
 case round =>
 clear HK
 obtain ⟨k, hk, rfl, HR, HK⟩ := hrel
 by_cases hlt : k < m
 ·obtain ⟨gb, off, ba, bc, b, rfl, _, hb, hc, hl⟩ := (HA.out _ HK.out.now.2).at_ (k := k) (by have := HMN.out; omega)
  obtain ⟨cc, hcw⟩ : ∃ cc, wd[k]? = some cc := ⟨_, List.getElem?_eq_getElem (by have := HMN.out; omega)⟩
  obtain ⟨hc0, hc1⟩ := hw.out.2 cc (List.mem_of_getElem? hcw)
  obtain ⟨n, rfl⟩ := Int.eq_ofNat_of_zero_le hc0
  have hcb := HK.out.now.1.word hw4 hcw
  obtain ⟨hm6, hmi⟩ := HM.out _ HK.out.now.2
  obtain ⟨lb, lo, x, rfl, hx, hxw, hcx⟩ := hmi.at_ (j := n) (by omega)
  have HX := Lh (And.intro hb (And.intro hcw hx))
  have HKi := Lh (HK.out.add (Below.refl _ _) (G := fun W => (W.cell? ⟨gb, off + k, none⟩ = some (.slice ba b.length bc) ∧ W.cell? ⟨mb, 6, none⟩ = some (.slice (some ⟨lb, lo, none⟩) ls.length lc) ∧ W.cell? ⟨w.heap.size, 1 + k, none⟩ = some (.int .i64 (n : Int)) ∧ W.cell? ⟨lb, lo + n, none⟩ = some (.int .i64 x)) ∧ Lst ba b W)
   (fun W hW => ⟨⟨(hW.cell (p := ⟨gb, off + k, none⟩) (lt_of_cell hc)).trans hc, (hW.cell (p := ⟨mb, 6, none⟩) (lt_of_cell hm6)).trans hm6, (hW.cell (p := ⟨w.heap.size, 1 + k, none⟩) (lt_of_cell hcb)).trans hcb, (hW.cell (p := ⟨lb, lo + n, none⟩) (lt_of_cell hcx)).trans hcx⟩, hl.below hW⟩))
  have hk1 : (k : Int) < O.length := by have := HMN.out; omega
  have hk4 : (k : Int) < 4 := by have := HMN.out; omega
  have hk0 : (0 : Int) ≤ (k : Int) := by omega
  have hn1 : (n : Int) < (ls.length : Int) := by omega
  have hkm : (k : Int) < (m : Int) := by omega
  obtain ⟨vm, hvm⟩ : ∃ vm, hasB b x = vm := ⟨_, rfl⟩
  have HVM := Lh hvm
  have HLT := Lh hlt
  clear hb hl hc hlt hcw hc0 hc1 hcb hm6 hmi hx hxw hcx hvm
  go_wp2_with fail
  have HK1 := St.hdrewN HKi 1
  go_region_held3 (fun W => W.cell? ⟨gb, off + k, none⟩ = some (.slice ba b.length bc) ∧ W.cell? ⟨mb, 6, none⟩ = some (.slice (some ⟨lb, lo, none⟩) ls.length lc) ∧ W.cell? ⟨w.heap.size, 1 + k, none⟩ = some (.int .i64 (n : Int)) ∧ W.cell? ⟨lb, lo + n, none⟩ = some (.int .i64 x))
   (first | exact HK2.out.now.1.1 | exact HK1.out.now.1.1 | go_keep)
   ((go_at_call 119; refine (Has_st HK1 (fun _ h => h.1.2) bc x HVM.out).mono ?_; rintro e5 w5 ⟨rfl, HK2⟩))
  rcases vm with _ | _
  ·obtain rfl := pB_f hv (fun h => by
    have := h k b n HX.out.1 HX.out.2.1
    rw [Int.toNat_natCast, getD_of HX.out.2.2, HVM.out] at this; cases this)
   go_wp2_with fail
   go_ret
   exact ⟨rfl, Lh (HK2.out.weaken fun _ h => h.2.2)⟩
  ·have HN : Hid (OnTo ls (bodies O) wd (k + 1)) := Lh fun j s t hj hs ht => by
    by_cases e : j = k
    ·subst e
     rw [HX.out.1] at hs; rw [HX.out.2.1] at ht
     injection hs with hs; injection ht with ht
     subst hs; subst ht
     rw [Int.toNat_natCast, getD_of HX.out.2.2, HVM.out]
    ·exact HR.out j s t (by omega) hs ht
   go_wp2_with fail
   go_roundw
   case rel => exact ⟨k + 1, by have := HLT.out; omega, by go_num, HN, Lh (HK2.out.weaken fun _ h => h.2)⟩
   case measure => have := HLT.out; simp [intOf]; omega
 ·obtain rfl : k = m := by omega
  have hd : decide (k < k) = false := by simp
  have hmm := HMM.out
  obtain rfl := pB_t hv (fun j s t hs ht => HR.out j s t (by
   have h1 := (List.getElem?_eq_some_iff.1 hs).1
   have h2 := (List.getElem?_eq_some_iff.1 ht).1
   rw [bodies_length] at h1
   have := HMN.out; omega) hs ht)
  go_wp2_with fail
  go_ret
  exact ⟨rfl, Lh (HK.out.weaken fun _ h => h.2)⟩
end
end
end Go.Proofs.YtlmkokeapbleoaaGreat
