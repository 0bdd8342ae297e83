/- Contracts and plain laws that the proof leans on. Condition: as each theorem says. -/
import Derived.Test.YtlmkokeapbleoaaGreatV10
import Derived.Test.YtlmkokeapbleoaaGreatV01
import Derived.Deep.SlicePairs
import Derived.ChangeArms
import Derived.ChangeSame
import Derived.Test.YtlmkokeapbleoaaGreatV04
import Derived.Deep.Slices
import Derived.Laws.OwnMore
import Derived.Test.YtlmkokeapbleoaaGreatV09
import Derived.Test.YtlmkokeapbleoaaGreatV08
set_option maxRecDepth 100000
set_option maxHeartbeats 64000000
set_option linter.unusedVariables false
set_option linter.unusedSimpArgs false
namespace Go.Proofs.YtlmkokeapbleoaaGreat
open Go.RowKit
section
def RetLB (w0 : World) (B : Nat) (r : List Sp) (F : World → Prop) (e : Ending) (w' : World) : Prop := ∃ A c, e = .returned (.slice A r.length c) ∧ (r = [] ∨ ∃ g, A = some ⟨g, 0, none⟩ ∧ B ≤ g) ∧ Hid (St w0 w' (fun W => Lst A r W ∧ F W))
theorem retLB_own {w0 w w' : World} {r : List Sp} {F : World → Prop} {e : Ending} (hK : Hid (St w0 w F)) (hp : Plain r) (ho : OwnList w w.heap.size r e w') : RetLB w0 w.heap.size r F e w' := by
 obtain ⟨v, rfl, hown, hb⟩ := ho
 rcases id hown.2 with ⟨rfl, hx⟩ | ⟨g, cap, cur, rfl, hg1, hg2, hg3, hg4, _⟩
 ·have hr : r = [] := List.eq_nil_of_length_eq_zero hx
  subst hr
  exact ⟨none, 0, rfl, .inl rfl, Lh (hK.out.add hb (hp.lst (Sl.nil_ _ _ _)))⟩
 ·exact ⟨_, cap, rfl, .inr ⟨g, rfl, hg1⟩, Lh (hK.out.add hb (hp.lst (Sl.of_own hown)))⟩
section
variable {w0 w : World} {F : World → Prop} {A B : Option Addr} {a b r : List Sp}
theorem Meet_stB (hK : Hid (St w0 w F)) (ha : ∀ W, F W → Lst A a W) (hb : ∀ W, F W → Lst B b W) (c d : Nat) (hr : Hid (Rep r (fun x => Mem a x ∧ Mem b x))) : Calls Tryz.prog 160 #[.slice A a.length c, .slice B b.length d] w (RetLB w0 w.heap.size r F) := by
 have h1 := ha w hK.out.now
 have h2 := hb w hK.out.now
 refine (Meet_any A B _ c _ d a b w h1.sp h2.sp h1.wd h2.wd (by have := h1.len; omega) (by have := h2.len; omega)).mono ?_
 rintro e w1 ⟨r', ho, hr', _⟩
 obtain rfl := Rep.unique hr' hr.out (fun _ => Iff.rfl)
 exact retLB_own hK hr'.1 ho
theorem Minus_stB (hK : Hid (St w0 w F)) (ha : ∀ W, F W → Lst A a W) (hb : ∀ W, F W → Lst B b W) (c d : Nat) (hr : Hid (Rep r (fun x => Mem a x ∧ ¬ Mem b x))) : Calls Tryz.prog 161 #[.slice A a.length c, .slice B b.length d] w (RetLB w0 w.heap.size r F) := by
 have h1 := ha w hK.out.now
 have h2 := hb w hK.out.now
 refine (Minus_any A B _ c _ d a b w h1.sp h2.sp h1.wd h2.wd (by have := h1.len; omega) (by have := h2.len; omega)).mono ?_
 rintro e w1 ⟨r', ho, hr', _⟩
 obtain rfl := Rep.unique hr' hr.out (fun _ => Iff.rfl)
 exact retLB_own hK hr'.1 ho
end
section
variable {w0 : World} {ops : Array Oper} {rest : List Oper} {o : Oper} {a : Act} {Q : Exit → Act → World → Prop} {base : Nat} {A : Option Addr} {c n : Nat} {xs : List Value}
theorem wpList_pushL (hgd : o.guard = none) (s x : Operand) (ho : o.op = .call { callee := .builtin .append, args := #[s, x], argTypes := #[29, 29] })
  (hown : w0.ownsRow base 103 1 (.slice A n c) n xs) (hs : a.eval s = .slice A n c) (u : Value) (hu : u.oneCell' = true) (hx : a.eval x = .slice (some ⟨w0.heap.size, 0, none⟩) 1 1) (hn : n < 1099511627776) (hbase : base ≤ w0.heap.size)
  (h : ∀ A' c' w', Hid (w'.ownsRow base 103 1 (.slice A' (n + 1) c') (n + 1) (xs ++ [u])) → Hid ((w0.alloc (.cells #[u] 103)).grownBy w' (Value.ownBlock (.slice A n c))) →
   Hid (Value.ownBlock (.slice A' (n + 1) c') = Value.ownBlock (.slice A n c) ∨ Value.ownBlock (.slice A' (n + 1) c') = some (w0.heap.size + 1)) → wpList Tryz.prog ops Q rest (a.put o.dst (.slice A' (n + 1) c')) w') :
  wpList Tryz.prog ops Q (o :: rest) a (w0.alloc (.cells #[u] 103)) := by
 obtain ⟨i0, hi, hz0, hz1, hz2⟩ := info_parts infoHd
 have hs0 : (w0.alloc (.cells #[u] 103)).heap.size = w0.heap.size + 1 := by simp
 refine wpList_append_own_at _ hgd s x 29 ho base 103 i0 _ 1 24 Tryz.underlying29 hi hz0 hz1 hz2 rfl (by decide) _ n xs hs (hown.alloc _) ⟨w0.heap.size, 0, none⟩ 1 1 [u] hx rfl ?_ (by intro v hv; simp at hv; subst hv; exact hu)
  (by unfold maxLen; omega) (by omega) (by rw [hs0]; omega) ?_
 ·exact World.news_of_block (cs := #[u]) (t := 103) (fr := (0, 0)) (heap_alloc_new w0 _)
 ·intro v' w' hown' hg _ hat
  obtain ⟨A', c', rfl⟩ := own_shape hown'
  rw [hs0] at hat
  exact h A' c' w' hown' hg hat
end
def LL (A : Option Addr) (O : List (Item Sp)) (W : World) : Prop := Items Lst A O.length O W
theorem Lst.lasts : Lasts Lst := fun A l w w' h hb => h.below hb
theorem LL.below {A : Option Addr} {O : List (Item Sp)} {w w' : World} (h : LL A O w) (hb : Below w.heap.size w w') : LL A O w' := Items.below h Lst.lasts hb
theorem LRow.ll {W : World} {base : Nat} {A : Option Addr} {c : Nat} {O : List (Item Sp)} (h : LRow W base A c O) : LL A O W := ⟨Sl.of_own h.row, fun i hi => (h.it i hi).1⟩
def RetR (w0 : World) (P : List (List Sp)) (F : World → Prop) (e : Ending) (w' : World) : Prop :=
 (1024 < P.length ∧ e = .returned (.tuple #[.slice none 0 0, .int .i64 4]) ∧ Hid (St w0 w' F)) ∨
 (P.length ≤ 1024 ∧ ∃ A c O, e = .returned (.tuple #[.slice A O.length c, .int .i64 0]) ∧ Hid (StabRel P (bodies O)) ∧ Hid (St w0 w' (fun W => LL A O W ∧ F W)))
def stp (P : List (List Sp)) (m1 m2 : List Sp) : Nat → List (List Sp)
 | 0 => P
 | 1 => addL P m1
 | _ => addL (addL P m1) m2
def XOk (W : World) (X : Option Addr) (m : List Sp) (A : Option Addr) (n c : Nat) : Prop := m = [] ∨ ∃ g, X = some ⟨g, 0, none⟩ ∧ Lst X m W ∧ some g ≠ Value.ownBlock (.slice A n c)
theorem XOk.grown {W W' : World} {X A A' : Option Addr} {m : List Sp} {n c n' c' : Nat} {ob : Obj} (h : XOk W X m A n c) (hg : (W.alloc ob).grownBy W' (Value.ownBlock (.slice A n c)))
  (hat : Value.ownBlock (.slice A' n' c') = Value.ownBlock (.slice A n c) ∨ Value.ownBlock (.slice A' n' c') = some (W.heap.size + 1)) : XOk W' X m A' n' c' := by
 rcases h with h | ⟨g, rfl, h1, h2⟩
 ·exact .inl h
 ·by_cases hm : m = []
  ·exact .inl hm
  ·obtain ⟨b2, off2, _, e2, _, hc, _⟩ := h1.sp.at_ (j := 0) (List.length_pos_iff.2 hm)
   injection e2 with e2
   injection e2 with e3 e4 e5
   subst e3
   have hlt := lt_of_cell hc
   refine .inr ⟨g, rfl, (h1.below ((Below.refl _ _).alloc (Nat.le_refl _) ob)).grown hg rfl h2, ?_⟩
   rcases hat with e | e
   ·rw [e]; exact h2
   ·rw [e]; intro e'; injection e' with e'; omega
theorem sortNil_any (W : World) : Calls Tryz.prog 162 #[.slice none 0 0, .func (.func 163) #[] #[]] W fun e w' => e = .returned (.tuple #[]) ∧ W = w' := by
 have HI : Hid (∀ W : World, Calls Tryz.prog 222 #[.slice none 0 0, .int .i64 0, .int .i64 0, .func (.func 163) #[] #[]] W fun e w' => e = .returned (.tuple #[]) ∧ W = w') := Lh fun W => by
  go_enter Tryz.func222, Tryz.ntmps222
  go_wp2_with fail
  refine wp_loop_rounds 1 ?_
  rw [rounds_succ]
  go_wp2_with fail
  go_end0
  exact ⟨rfl, rfl⟩
 have HS : Hid (∀ W : World, Calls Tryz.prog 194 #[.slice none 0 0, .int .i64 0, .func (.func 163) #[] #[]] W fun e w' => e = .returned (.tuple #[]) ∧ W = w') := Lh fun W => by
  go_enter Tryz.func194, Tryz.ntmps194
  go_wp2_with fail
  refine wp_loop_rounds 1 ?_
  rw [rounds_succ]
  go_wp2_with (go_at_call 222; refine (HI.out _).mono ?_; rintro e w1 ⟨rfl, rfl⟩)
  refine wp_loop_rounds 1 ?_
  rw [rounds_succ]
  go_wp2_with fail
  go_end0
  exact ⟨rfl, rfl⟩
 go_enter Tryz.func162, Tryz.ntmps162
 go_wp2_with (go_at_call 194; refine (HS.out _).mono ?_; rintro e w1 ⟨rfl, rfl⟩)
 go_end0
 exact ⟨rfl, rfl⟩
theorem arr0 (A : Option Addr) (n c : Nat) (B : Option Addr) (m d : Nat) (w : World) : (Instr.index 239 (.agg #[.slice A n c, .slice B m d]) (.int .i64 0)).run Tryz.prog w = .ok (.slice A n c) w := by
 have hu := run_underlying Tryz.underlying239
 have a24 := Tryz.isAgg103
 have z24 := Tryz.sizeOf103
 simp [Instr.index, asIntOf, hu, go_sem, a24, z24]
theorem arr1 (A : Option Addr) (n c : Nat) (B : Option Addr) (m d : Nat) (w : World) : (Instr.index 239 (.agg #[.slice A n c, .slice B m d]) (.int .i64 1)).run Tryz.prog w = .ok (.slice B m d) w := by
 have hu := run_underlying Tryz.underlying239
 have a24 := Tryz.isAgg103
 have z24 := Tryz.sizeOf103
 simp [Instr.index, asIntOf, hu, go_sem, a24, z24]
theorem snocI (O : List (Item Sp)) : O = [] ∨ 0 < O.length := by cases O <;> simp
theorem addL_cons {P : List (List Sp)} {x : List Sp} (h : x ≠ []) : addL P x = P ++ [x] := if_neg h
section
variable {w0 w : World} {F : World → Prop} {A B : Option Addr} {L : List (Item Sp)} {s : List Sp}
theorem Refine_st (hK : Hid (St w0 w F)) (hb : ∀ W, F W → LL A L W) (hs : ∀ W, F W → Lst B s W) (hn : L.length < 1048576) (c d : Nat) :
  Calls Tryz.prog 112 #[.slice A L.length c, .slice B s.length d] w (RetR w0 (parts s [] (bodies L)) F) := by
 have hix0 := arr0
 have hix1 := arr1
 go_enter Tryz.func112, Tryz.ntmps112
 go_wp2_with fail
 go_loopw [6, 13] (fun ov kv wr => ∃ (k : Nat) (O : List (Item Sp)) (Ao : Option Addr) (co : Nat), k ≤ L.length ∧ kv = .int .i64 k ∧ ov = .slice Ao O.length co ∧ O.length ≤ 1024 ∧ Hid (LRow wr w.heap.size Ao co O) ∧ Hid (bodies O = parts s [] ((bodies L).take k)) ∧ Hid (Below w.heap.size w wr)) (fun _ kv _ => L.length - (intOf kv).toNat)
 case atStart => exact ⟨0, [], none, 0, Nat.zero_le _, rfl, rfl, by simp, Lh (LRow.start _ _), Lh rfl, Lh (Below.refl _ _)⟩
 case round =>
 obtain ⟨k, O, Ao, co, hk, rfl, rfl, hol, HO, HP, HB⟩ := hrel
 have HS := Lh (hK.out.step HB.out)
 by_cases hlt : k < L.length
 ·obtain ⟨gb, off, ba, bc, b, hA, hx, hc, hwd⟩ := (hb _ HS.out.now).at_ hlt
  have hbk : (bodies L)[k]? = some b := by unfold bodies; rw [List.getElem?_map, hx]; rfl
  have HN := Lh (parts_next (s := s) hbk)
  obtain ⟨m1, hm1⟩ : ∃ m, meetM b s = m := ⟨_, rfl⟩
  obtain ⟨m2, hm2⟩ : ∃ m, minusL b s = m := ⟨_, rfl⟩
  have R1 : Hid (Rep m1 (fun x => Mem b x ∧ Mem s x)) := by rw [← hm1]; exact meetL_rep b s
  have R2 : Hid (Rep m2 (fun x => Mem b x ∧ ¬ Mem s x)) := by rw [← hm2]; exact minusL_rep b s
  rw [hm1, hm2, ← HP.out] at HN
  have HK1 := Lh (HS.out.add (Below.refl _ _) (G := fun W => LRow W w.heap.size Ao co O ∧ Lst ba b W ∧ Below w.heap.size w W ∧ Below wr.heap.size wr W) (fun W hW => ⟨HO.out.below hW, hwd.below hW, below_to HB.out hW, hW⟩))
  have hgs : ∀ g, Value.ownBlock (.slice Ao O.length co) = some g → g < wr.heap.size := fun g e => (HO.out.row.lt g e).2
  have HGS := Lh hgs
  subst hA
  clear hx hwd hbk hm1 hm2 hgs
  go_wp2_with fail
  refine (Meet_stB HK1 (fun _ h => h.1.2.1) (fun _ h => hs _ h.2) _ _ R1).mono ?_
  rintro e w1 ⟨X1, c1, rfl, hX1, HK2⟩
  have HXB1 := Lh hX1
  have hsz1 : wr.heap.size ≤ w1.heap.size := HK2.out.now.2.1.2.2.2.size
  clear hX1
  go_wp2_with fail
  refine (Minus_stB HK2 (fun _ h => h.2.1.2.1) (fun _ h => hs _ h.2.2) _ _ R2).mono ?_
  rintro e w2 ⟨X2, c2, rfl, hX2, HK3⟩
  have HXB2 := Lh hX2
  clear hX2
  obtain ⟨hl2, hl1, ⟨hrow, _, hbw, _⟩, _⟩ := HK3.out.now
  have HO2 := Lh hrow
  have HB2 := Lh hbw
  have HX1 : Hid (XOk w2 X1 m1 Ao O.length co) := by
   rcases HXB1.out with h | ⟨g, hg, hge⟩
   ·exact .inl h
   ·exact .inr ⟨g, hg, hl1, fun e => by have := HGS.out g e.symm; omega⟩
  have HX2 : Hid (XOk w2 X2 m2 Ao O.length co) := by
   rcases HXB2.out with h | ⟨g, hg, hge⟩
   ·exact .inl h
   ·exact .inr ⟨g, hg, hl2, fun e => by have := HGS.out g e.symm; omega⟩
  have hml : m1.length < 137438953472 ∧ m2.length < 137438953472 := ⟨hl1.len, hl2.len⟩
  obtain ⟨hml1, hml2⟩ := hml
  obtain ⟨P, hP⟩ : ∃ P, bodies O = P := ⟨_, rfl⟩
  have HPP : Hid (bodies O = stp P m1 m2 0) := Lh hP
  rw [hP] at HN
  clear hl2 hl1 hrow hbw HK1 HK2 HK3 HXB1 HXB2 HGS hP R1 R2
  go_wp2_with fail
  go_loopw [6, 24] (fun ov jv wq => ∃ (j : Nat) (M : List (Item Sp)) (Am : Option Addr) (cm : Nat), j ≤ 2 ∧ jv = .int .i64 j ∧ ov = .slice Am M.length cm ∧ M.length ≤ 1024 + j ∧ Hid (LRow wq w.heap.size Am cm M) ∧ Hid (bodies M = stp P m1 m2 j) ∧ Hid (XOk wq X1 m1 Am M.length cm) ∧ Hid (XOk wq X2 m2 Am M.length cm) ∧ Hid (Below w.heap.size w wq)) (fun _ jv _ => 2 - (intOf jv).toNat)
  case atStart => exact ⟨0, O, Ao, co, by omega, rfl, rfl, by omega, HO2, HPP, HX1, HX2, HB2⟩
  case round =>
  obtain ⟨j, M, Am, cm, hj, rfl, rfl, hml, HM, HPM, HY1, HY2, HBM⟩ := hrel
  have hj3 : j = 0 ∨ j = 1 ∨ j = 2 := by omega
  rcases hj3 with rfl | rfl | rfl
  ·by_cases hm : m1 = []
   ·subst hm
    have HPN : Hid (bodies M = stp P [] m2 1) := by unfold Hid; rw [HPM.out]; rfl
    go_wp2_with fail
    exact ⟨⟨1, M, Am, cm, by omega, by go_num, rfl, by omega, HM, HPN, HY1, HY2, HBM⟩, by simp [intOf]⟩
   ·have hpos : (0 : Int) < m1.length := by have := List.length_pos_iff.2 hm; omega
    obtain ⟨gx, hgx, hlx, hnx⟩ := HY1.out.resolve_left hm
    have HLX := Lh hlx
    have HNX := Lh hnx
    have HMM := Lh hm
    have HPN : Hid (bodies M ++ [m1] = stp P m1 m2 1) := by unfold Hid; rw [HPM.out]; exact (addL_cons hm).symm
    subst hgx
    clear hlx hnx hm
    go_wp2_with (at_builtin; go_must (refine wpList_pushL rfl _ _ rfl HM.out.row rfl (.slice (some ⟨gx, 0, none⟩) m1.length c1) rfl (by first | rfl | (simp; rfl) | simp) (by omega) HBM.out.size ?_); intro A5 c5 w5 HO5 HG5 HAT5)
    have HM5 := Lh (HM.out.pushed (cx := c1) HLX.out HMM.out HNX.out (by rw [icells_append]; exact HO5.out) HG5.out HAT5.out)
    have hl5 : (M ++ [((some ⟨gx, 0, none⟩, c1, m1) : Item Sp)]).length = M.length + 1 := by simp
    exact ⟨⟨1, M ++ [(some ⟨gx, 0, none⟩, c1, m1)], A5, c5, by omega, by go_num, by rw [hl5], by rw [hl5]; omega, HM5, by unfold Hid; rw [bodies_append]; exact HPN.out, by rw [hl5]; exact Lh (HY1.out.grown HG5.out HAT5.out), by rw [hl5]; exact Lh (HY2.out.grown HG5.out HAT5.out), Lh (HM.out.bel (n := 0) HBM.out HG5.out HBM.out.size)⟩, by simp [intOf]⟩
  ·by_cases hm : m2 = []
   ·subst hm
    have HPN : Hid (bodies M = stp P m1 [] 2) := by unfold Hid; rw [HPM.out]; rfl
    go_wp2_with fail
    exact ⟨⟨2, M, Am, cm, by omega, by go_num, rfl, by omega, HM, HPN, HY1, HY2, HBM⟩, by simp [intOf]⟩
   ·have hpos : (0 : Int) < m2.length := by have := List.length_pos_iff.2 hm; omega
    obtain ⟨gx, hgx, hlx, hnx⟩ := HY2.out.resolve_left hm
    have HLX := Lh hlx
    have HNX := Lh hnx
    have HMM := Lh hm
    have HPN : Hid (bodies M ++ [m2] = stp P m1 m2 2) := by unfold Hid; rw [HPM.out]; exact (addL_cons hm).symm
    subst hgx
    clear hlx hnx hm
    go_wp2_with (at_builtin; go_must (refine wpList_pushL rfl _ _ rfl HM.out.row rfl (.slice (some ⟨gx, 0, none⟩) m2.length c2) rfl (by first | rfl | (simp; rfl) | simp) (by omega) HBM.out.size ?_); intro A5 c5 w5 HO5 HG5 HAT5)
    have HM5 := Lh (HM.out.pushed (cx := c2) HLX.out HMM.out HNX.out (by rw [icells_append]; exact HO5.out) HG5.out HAT5.out)
    have hl5 : (M ++ [((some ⟨gx, 0, none⟩, c2, m2) : Item Sp)]).length = M.length + 1 := by simp
    exact ⟨⟨2, M ++ [(some ⟨gx, 0, none⟩, c2, m2)], A5, c5, by omega, by go_num, by rw [hl5], by rw [hl5]; omega, HM5, by unfold Hid; rw [bodies_append]; exact HPN.out, by rw [hl5]; exact Lh (HY1.out.grown HG5.out HAT5.out), by rw [hl5]; exact Lh (HY2.out.grown HG5.out HAT5.out), Lh (HM.out.bel (n := 0) HBM.out HG5.out HBM.out.size)⟩, by simp [intOf]⟩
  ·have HPK : Hid (bodies M = parts s [] ((bodies L).take (k + 1))) := Lh (HPM.out.trans HN.out.symm)
   by_cases hbig : 1024 < M.length
   ·have hbig' : (1024 : Int) < M.length := by omega
    have HKE := Lh (hK.out.step HBM.out)
    have HLE : Hid (1024 < (parts s [] (bodies L)).length) := by
     unfold Hid
     have h1 := parts_append s ((bodies L).take (k + 1)) ((bodies L).drop (k + 1)) []
     rw [List.take_append_drop] at h1
     rw [h1, ← HPK.out]
     have h2 := parts_len s ((bodies L).drop (k + 1)) (bodies M)
     rw [bodies_length] at h2
     omega
    go_wp2_with fail
    go_ret2
    exact .inl ⟨HLE.out, rfl, HKE⟩
   ·have hbig' : ¬ (1024 : Int) < M.length := by omega
    go_wp2_with fail
    exact ⟨⟨k + 1, M, Am, cm, by omega, by go_num, rfl, by omega, HM, HPK, HBM⟩, by simp [intOf]; omega⟩
 ·obtain rfl : k = L.length := by omega
  have hd : decide (L.length < L.length) = false := by simp
  have HPA : Hid (bodies O = parts s [] (bodies L)) := by
   have := HP.out
   rw [← bodies_length (L := L), List.take_length] at this
   exact this
  have HLE : Hid ((parts s [] (bodies L)).length ≤ 1024) := by
   unfold Hid
   rw [← HPA.out, bodies_length]; exact hol
  rcases snocI O with rfl | hne
  ·obtain ⟨rfl, rfl⟩ := HO.out.nil rfl
   go_wp2_with fail
   refine (sortNil_any wr).mono ?_
   rintro e w3 ⟨rfl, rfl⟩
   go_wp2_with fail
   go_ret2
   exact .inr ⟨HLE.out, none, 0, [], rfl, by rw [← HPA.out]; exact Lh StabRel.nil_, Lh (HS.out.add (Below.refl _ _) (fun W hW => HO.out.ll.below hW))⟩
  ·obtain ⟨g, cap, hv, hg1, hg2⟩ := HO.out.row.form hne
   obtain ⟨rfl, rfl⟩ : Ao = some ⟨g, 0, none⟩ ∧ co = cap := by injection hv with h1 h2 h3; exact ⟨h1, h3⟩
   clear hv
   have hkl := kvs_len O
   go_wp2_with fail
   rw [← hkl]
   refine (sortStable_any w.heap.size g co (kvs O) wr (Lh HO.out.kst) (Lh (kvs_ix O _)) (by rw [hkl]; omega)).mono ?_
   rintro e w3 ⟨rfl, ys, ⟨r1, r2⟩, r3, r4⟩
   obtain ⟨O', o1, o2, o3⟩ := HO.out.sorted r1 r2 r3 r4
   have HO3 := Lh o2
   have HST := Lh o3
   have HB3 := Lh (HB.out.grown r4 HB.out.size (fun k e => by injection e with e; omega))
   clear r1 r2 r3 r4 o2 o3
   rw [hkl]
   go_wp2_with fail
   go_ret2
   exact .inr ⟨HLE.out, _, co, O', (by rw [o1]; rfl), by rw [← HPA.out]; exact HST, Lh ((hK.out.add HB3.out (fun W hW => HO3.out.ll.below hW)))⟩
end
end
section
open Go.RowKit Go.ChangeShapes Go.WideShapes Go.Deep
theorem wf64 {z : Int} (h : (Lit.int .i64 z).wf = true) : -9223372036854775808 ≤ z ∧ z ≤ 9223372036854775807 := by
 simpa [Lit.wf, IntKind.min, IntKind.signed, IntKind.bits] using h
theorem open_spans {H : Type} {enc : TypeId × Value → H} {W : World} {base : Nat} {spare : Nat → Bool} {held : Bool} {fuel : Nat} {a : Option Addr} {len cap : Nat} {x : DataW H × List MemPlace}
  (h : DataW.trod enc Tryz.prog W base spare held fuel 103 [.slice a len cap] = some x) : ∃ l : List Sp, Spans W a len l ∧ SpW l ∧ len ≤ 9223372036854775807 := by
 rcases open_slice_pairs Tryz.underlying103 Tryz.underlying129 (by kernel_rfl) rfl rfl (by kernel_rfl) (by kernel_rfl) h with ⟨hcs, _⟩ | ⟨b, l, c, m, n, V0, V1, D0, D1, P0, P1, hcs, _, hl, hm, hmm, _, hc⟩
 ·simp at hcs
  obtain ⟨rfl, rfl, rfl⟩ := hcs
  exact ⟨[], Sl.nil_ _ _ _, by simp [SpW], by omega⟩
 ·simp at hcs
  obtain ⟨rfl, rfl, rfl⟩ := hcs
  have hlm : len ≤ m := by rw [hmm]; split <;> omega
  have each : ∀ i, ∃ p : Sp, i < len → (W.cell? (b.add (i * 2)) = some (.int .i64 p.1) ∧ W.cell? (b.add (i * 2 + 1)) = some (.int .i64 p.2) ∧ (Lit.int .i64 p.1).wf = true ∧ (Lit.int .i64 p.2).wf = true) := by
   intro i
   by_cases hi : i < len
   ·obtain ⟨h1, h2, h3, h4⟩ := hc i (by omega)
    obtain ⟨z0, e0, _, w0⟩ := DataW.trod_int Tryz.underlying3 h3
    obtain ⟨z1, e1, _, w1⟩ := DataW.trod_int Tryz.underlying3 h4
    simp at e0 e1
    exact ⟨(z0, z1), fun _ => ⟨by rw [h1, e0], by rw [h2, e1], w0, w1⟩⟩
   ·exact ⟨(0, 0), fun g => absurd g hi⟩
  obtain ⟨q, hq⟩ := Classical.skolem.1 each
  refine ⟨(List.range len).map q, ⟨by rw [spanCells_length]; simp, fun hn => ?_⟩, fun p hp => ?_, by have := hm; unfold maxLen at *; omega⟩
  ·obtain ⟨bb, off, spot⟩ := b
   have h0 := (hq 0 hn).1
   have hs : spot = none := by simpa [Addr.add] using World.cell?_spot h0
   subst hs
   refine ⟨bb, off, rfl, fun j u hu => ?_⟩
   have ea : ∀ k, (⟨bb, off, none⟩ : Addr).add k = ⟨bb, off + k, none⟩ := fun k => by unfold Addr.add; split <;> simp_all
   have hj : j < len * 2 := by
    have := (List.getElem?_eq_some_iff.1 hu).1
    rw [spanCells_length] at this; simpa using this
   have hg : ((List.range len).map q)[j / 2]? = some (q (j / 2)) := by
    rw [List.getElem?_map, List.getElem?_range (by omega)]; rfl
   obtain ⟨s1, s2⟩ := spanCells_at _ _ _ hg
   obtain ⟨c1, c2, _, _⟩ := hq (j / 2) (by omega)
   rw [ea] at c1 c2
   rcases Nat.mod_two_eq_zero_or_one j with e | e
   ·have ej : j / 2 * 2 = j := by omega
    rw [ej] at s1 c1
    rw [s1] at hu; cases hu; exact c1
   ·have ej : j / 2 * 2 + 1 = j := by omega
    rw [ej] at s2 c2
    rw [s2] at hu; cases hu; exact c2
  ·obtain ⟨i, hi, rfl⟩ := List.mem_map.1 hp
   have := hq i (List.mem_range.1 hi)
   exact ⟨wf64 this.2.2.1, wf64 this.2.2.2⟩
end
section
open Go.RowKit Go.ChangeShapes Go.WideShapes Go.Deep
abbrev Lst3 := Item Sp
def SpI (A : Option Addr) (l : List Sp) (W : World) : Prop := Spans W A l.length l ∧ SpW l ∧ l.length ≤ 9223372036854775807
theorem SpI.lasts : Lasts SpI := fun A l w w' h hb => ⟨h.1.below hb, h.2⟩
def SssIn (W : World) (A : Option Addr) (n : Nat) (L : List Lst3) : Prop := Items SpI A n L W ∧ n ≤ 9223372036854775807
theorem spans_shape {H : Type} {enc : TypeId × Value → H} {W : World} {base : Nat} {spare : Nat → Bool} {held : Bool} {fuel : Nat} {cs : List Value} {x : DataW H × List MemPlace}
  (h : DataW.trod enc Tryz.prog W base spare held fuel 103 cs = some x) : ∃ a len cap, cs = [.slice a len cap] := by
 rcases open_slice Tryz.underlying103 h with ⟨hcs, _⟩ | ⟨a, len, cap, m, n, D, Pl, hcs, _⟩
 ·exact ⟨_, _, _, hcs⟩
 ·exact ⟨_, _, _, hcs⟩
end
section
def bigL (L : List (Item Sp)) : Bool := decide (30 < L.length) || L.any fun i => decide (30 < i.2.2.length)
theorem bigL_no {L : List (Item Sp)} (h : bigL L = false) : L.length ≤ 30 ∧ ∀ i ∈ L, i.2.2.length ≤ 30 := by
 simpa [bigL] using h
theorem SssIn.ll {W : World} {A : Option Addr} {n : Nat} {L : List (Item Sp)} (h : SssIn W A n L) (hb : bigL L = false) : n = L.length ∧ ∀ w', Below W.heap.size W w' → LL A L w' := by
 have hl := h.1.len
 obtain ⟨h1, h2⟩ := bigL_no hb
 refine ⟨hl.symm, fun w' hw => ?_⟩
 subst hl
 refine ⟨Sl.below (B := 0) h.1.sl hw, fun i hi => ?_⟩
 obtain ⟨a1, a2, a3⟩ := h.1.it i hi
 have := h2 i hi
 exact ⟨a1.below hw, a2, by omega⟩
def classI (L : List (List Sp)) (x : Int) : Int := if L.any (fun l => hasB l x) then (L.findIdx (fun l => hasB l x) : Int) else -1
theorem findIdx_here {L : List (List Sp)} {x : Int} {k : Nat} {l : List Sp} (hk : L[k]? = some l) (h : hasB l x = true) (hno : (L.take k).any (fun l => hasB l x) = false) : classI L x = k := by
 have hm := List.mem_of_getElem? hk
 have h1 : L.any (fun l => hasB l x) = true := List.any_eq_true.2 ⟨l, hm, h⟩
 unfold classI
 rw [if_pos h1]
 congr 1
 obtain ⟨hlt, rfl⟩ := List.getElem?_eq_some_iff.1 hk
 rw [List.findIdx_eq hlt]
 refine ⟨h, fun j hj => ?_⟩
 rw [List.any_eq_false] at hno
 have := hno (L[j]'(by omega)) (List.mem_iff_getElem?.2 ⟨j, by rw [List.getElem?_take_of_lt hj]; exact List.getElem?_eq_getElem _⟩)
 simpa using this
theorem classI_none {L : List (List Sp)} {x : Int} (h : L.any (fun l => hasB l x) = false) : classI L x = -1 := by
 unfold classI; rw [h]; rfl
section
variable {w0 w : World} {F : World → Prop} {A B : Option Addr} {L M : List (Item Sp)}
theorem rClass_st (hK : Hid (St w0 w F)) (hb : ∀ W, F W → LL A L W) (hn : L.length < 1048576) (c : Nat) (x : Int) {v : Int} (hv : classI (bodies L) x = v) : Calls Tryz.prog 79 #[.slice A L.length c, .int .i64 x] w (RetV w0 (.int .i64 v) F) := by
 have HV := Lh hv
 have HA := Lh (hb _ hK.out.now)
 clear hv
 go_enter Tryz.func79, Tryz.ntmps79
 go_wp2_with fail
 go_loop [5] (fun i => ∃ k : Nat, k ≤ L.length ∧ i = .int .i64 k ∧ Hid (((bodies L).take k).any (fun l => hasB l x) = false)) (fun i => L.length - (intOf i).toNat)
 case atStart => exact ⟨0, Nat.zero_le _, rfl, rfl⟩
 case round =>
 obtain ⟨k, hk, rfl, hal⟩ := hrel
 by_cases hlt : k < L.length
 ·obtain ⟨b, off, a, c1, l, rfl, hx, hc, hwd⟩ := HA.out.at_ hlt
  have hbk : (bodies L)[k]? = some l := by unfold bodies; rw [List.getElem?_map, hx]; rfl
  have HBK := Lh hbk
  have HH := Lh (rHas_any a l.length c1 l x w hwd.sp (by have := hwd.len; omega))
  clear hx hwd hbk
  rcases hh : hasB l x with _ | _
  ·rw [hh] at HH
   have HHH := Lh hh
   clear hh
   go_wp2_with (go_at_call 121; refine HH.out.mono ?_; rintro e w' ⟨rfl, rfl⟩)
   go_round
   case rel => exact ⟨k + 1, by omega, by go_num, by unfold Hid; rw [take_snoc? HBK.out, List.any_append, hal.out]; simp [HHH.out]⟩
   case measure => simp [intOf]; omega
  ·rw [hh] at HH
   have HHH := Lh hh
   clear hh
   go_wp2_with (go_at_call 121; refine HH.out.mono ?_; rintro e w' ⟨rfl, rfl⟩)
   go_ret
   exact ⟨ret_int (by rw [← HV.out]; exact (findIdx_here HBK.out HHH.out hal.out).symm), hK⟩
 ·have hlt2 : decide (k < L.length) = false := by simpa using hlt
  go_wp2_with fail
  go_ret
  refine ⟨ret_int ?_, hK⟩
  have e := hal.out
  rw [List.take_of_length_le (by rw [bodies_length]; omega)] at e
  rw [← HV.out, classI_none e]
theorem eg84 (p : Value) : ∀ args w, (callFunc 199 args).run Tryz.prog w = .ok (.enter 199 args) w := enters_of Tryz.func199 (by kernel_rfl) rfl
theorem Class_st (hK : Hid (St w0 w F)) (hb : ∀ W, F W → LL A L W) (hn : L.length < 1048576) (c : Nat) (x : Int) {v : Int} (hv : classI (bodies L) x = v) : Calls Tryz.prog 169 #[.slice A L.length c, .int .i64 x] w (RetV w0 (.int .i64 v) F) := by
 have HV := Lh hv
 clear hv
 have HK1 := Lh (hK.out.add ((Below.refl _ _).alloc (Nat.le_refl _) (.cells #[.int .i64 x] 3)) (G := fun W => W.cell? ⟨w.heap.size, 0, none⟩ = some (.int .i64 x)) (fun W hW => by
  have hb := heap_alloc_new w (.cells #[.int .i64 x] 3)
  rw [hW.cell (p := ⟨w.heap.size, 0, none⟩) (by simp)]
  simp only [World.cell?, hb]; rfl))
 have HC : Hid (∀ (W : World) (a : Option Addr) (l : List Sp) (c1 : Nat) (b : Bool), Hid (St w0 W (fun W => W.cell? ⟨w.heap.size, 0, none⟩ = some (.int .i64 x) ∧ F W)) → Lst a l W → hasB l x = b → Calls Tryz.prog 199 #[.slice a l.length c1, .pointer (some ⟨w.heap.size, 0, none⟩)] W (RetV w0 (.bool b) (fun W => W.cell? ⟨w.heap.size, 0, none⟩ = some (.int .i64 x) ∧ F W))) := by
  refine Lh fun W a l c1 b hKW hl hbb => ?_
  have HBB := Lh hbb
  have hx := hKW.out.now.1
  have HL := Lh (hKW.out.add (Below.refl _ _) (G := Lst a l) (fun W' hW' => hl.below hW'))
  clear hbb hl
  go_enter Tryz.func199, Tryz.ntmps199
  go_wp2_with fail
  refine (Has_st HL (fun _ h => h.1) _ x HBB.out).mono ?_
  rintro e w1 ⟨rfl, HK⟩
  go_wp2_with fail
  go_ret
  exact ⟨rfl, Lh (HK.out.weaken fun W h => h.2)⟩
 have HI : Hid (Calls Tryz.prog 198 #[.slice A L.length c, .func (.func 199) #[] #[.pointer (some ⟨w.heap.size, 0, none⟩)]] (w.alloc (.cells #[.int .i64 x] 3)) (RetV w0 (.int .i64 v) F)) := by
  have eg := eg84 (.bool true)
  go_enter Tryz.func198, Tryz.ntmps198
  go_wp2_with fail
  go_loopw [8] (fun i wr => ∃ k : Nat, k ≤ L.length ∧ i = .int .i64 k ∧ Hid (((bodies L).take k).any (fun l => hasB l x) = false) ∧ Hid (St w0 wr (fun W => W.cell? ⟨w.heap.size, 0, none⟩ = some (.int .i64 x) ∧ F W))) (fun i _ => L.length - (intOf i).toNat)
  case atStart => exact ⟨0, Nat.zero_le _, rfl, rfl, HK1⟩
  case round =>
  obtain ⟨k, hk, rfl, hal, HK⟩ := hrel
  by_cases hlt : k < L.length
  ·obtain ⟨b, off, a, c1, l, hA, hx, hc, hwd⟩ := (hb _ HK.out.now.2).at_ hlt
   have hbk : (bodies L)[k]? = some l := by unfold bodies; rw [List.getElem?_map, hx]; rfl
   have HBK := Lh hbk
   have HWD := Lh hwd
   subst hA
   clear hx hwd hbk
   rcases hh : hasB l x with _ | _
   ·have HHH := Lh hh
    clear hh
    go_wp2_with fail
    refine (HC.out wr a l c1 false HK HWD.out HHH.out).mono ?_
    rintro e w2 ⟨rfl, HK2⟩
    go_wp2_with fail
    exact ⟨⟨k + 1, by omega, by go_num, by unfold Hid; rw [take_snoc? HBK.out, List.any_append, hal.out]; simp [HHH.out], HK2⟩, by simp [intOf]; omega⟩
   ·have HHH := Lh hh
    clear hh
    go_wp2_with fail
    refine (HC.out wr a l c1 true HK HWD.out HHH.out).mono ?_
    rintro e w2 ⟨rfl, HK2⟩
    go_wp2_with fail
    go_ret
    exact ⟨ret_int (by rw [← HV.out]; exact (findIdx_here HBK.out HHH.out hal.out).symm), Lh (HK2.out.weaken fun W h => h.2)⟩
  ·have hlt2 : decide (k < L.length) = false := by simpa using hlt
   go_wp2_with fail
   go_ret
   refine ⟨ret_int ?_, Lh (HK.out.weaken fun W h => h.2)⟩
   have e := hal.out
   rw [List.take_of_length_le (by rw [bodies_length]; omega)] at e
   rw [← HV.out, classI_none e]
 go_enter Tryz.func169, Tryz.ntmps169
 go_wp2_with fail
 refine HI.out.mono ?_
 rintro e w1 ⟨rfl, HK⟩
 go_wp2_with fail
 go_ret
 exact ⟨rfl, HK⟩
end
end
section
noncomputable def stabS (P : List (List Sp)) : List (List Sp) := open Classical in if h : ∃ Q, StabRel P Q then Classical.choose h else []
theorem stabS_eq {P Q : List (List Sp)} (h : StabRel P Q) : stabS P = Q := by
 unfold stabS
 rw [dif_pos ⟨Q, h⟩]
 exact StabRel.unique (Classical.choose_spec (⟨Q, h⟩ : ∃ Q, StabRel P Q)) h
noncomputable def splitF : List (List Sp) → List (List Sp) → Option (List (List Sp))
 | out, [] => some out
 | out, s :: fam => if 1024 < (parts s [] out).length then none else splitF (stabS (parts s [] out)) fam
noncomputable def splitL (r : List Sp) (fam : List (List Sp)) : Option (List (List Sp)) := if r = [] then some [] else splitF [r] fam
theorem splitF_append (L M : List (List Sp)) (out : List (List Sp)) : splitF out (L ++ M) = (splitF out L).bind fun P => splitF P M := by
 induction L generalizing out with
 | nil => rfl
 | cons s L ih =>
  simp only [splitF, List.cons_append]
  split
  ·rfl
  ·exact ih _
theorem splitF_next {L : List (List Sp)} {k : Nat} {s : List Sp} {out P : List (List Sp)} (h : L[k]? = some s) (hP : splitF out (L.take k) = some P) :
  splitF out (L.take (k + 1)) = if 1024 < (parts s [] P).length then none else some (stabS (parts s [] P)) := by
 rw [take_snoc? h, splitF_append, hP]
 rfl
theorem splitF_none {L : List (List Sp)} {k : Nat} {out : List (List Sp)} (h : splitF out (L.take k) = none) : splitF out L = none := by
 have := splitF_append (L.take k) (L.drop k) out
 rw [List.take_append_drop, h] at this
 exact this
def RetSplit (w0 : World) (S : Option (List (List Sp))) (F : World → Prop) (e : Ending) (w' : World) : Prop :=
 (S = none ∧ e = .returned (.tuple #[.slice none 0 0, .int .i64 4]) ∧ Hid (St w0 w' F)) ∨
 (∃ A c O, S = some (bodies O) ∧ O.length ≤ 1024 ∧ e = .returned (.tuple #[.slice A O.length c, .int .i64 0]) ∧ Hid (St w0 w' (fun W => LL A O W ∧ F W)))
theorem St.litL {w0 w : World} {F : World → Prop} (hK : Hid (St w0 w F)) (its : List (Item Sp)) (h : ∀ W, F W → AllIt Lst its W) (cs : Array Value) (hcs : cs = (icells its).toArray) :
  Hid (St w0 (w.alloc (.cells cs 103)) (fun W => LL (some ⟨w.heap.size, 0, none⟩) its W ∧ F W)) := by
 subst hcs
 have hb : Below w.heap.size w (w.alloc (.cells (icells its).toArray 103)) := (Below.refl _ _).alloc (Nat.le_refl _) _
 refine Lh (hK.out.add hb (fun W hW => ⟨⟨by rw [icells_length]; simp, fun hn => ⟨_, 0, rfl, fun j u hu => ?_⟩⟩, h W (hK.out.1 W (below_to hb hW))⟩))
 have hbk := heap_alloc_new w (.cells (icells its).toArray 103)
 rw [hW.cell (p := ⟨w.heap.size, 0 + j, none⟩) (by simp)]
 simp only [World.cell?, hbk]
 simpa using hu
section
variable {w0 w : World} {F : World → Prop} {A B : Option Addr} {L : List (Item Sp)} {a r : List Sp}
theorem Split_st (hK : Hid (St w0 w F)) (ha : ∀ W, F W → Lst A a W) (hb : ∀ W, F W → LL B L W) (hn : L.length < 1048576) (c d : Nat) (hr : Hid (Rep r (Mem a))) :
  Calls Tryz.prog 53 #[.slice A a.length c, .slice B L.length d] w (RetSplit w0 (splitL r (bodies L)) F) := by
 go_enter Tryz.func53, Tryz.ntmps53
 go_wp2_with fail
 refine (Norm_st hK (fun _ h => ha _ h) _ hr).mono ?_
 rintro e w1 ⟨A1, c1, rfl, HK⟩
 have HK := St.litL HK [(A1, c1, r)] (fun W h i hi => by simp at hi; subst hi; exact h.1) #[.slice A1 r.length c1] rfl
 obtain ⟨gb, off, xa, xc, x, hA, hx, hc, _⟩ := HK.out.now.1.at_ (j := 0) (by simp)
 injection hA with hA
 injection hA with h1 h2 h3
 subst h1; subst h2
 simp at hx
 obtain ⟨rfl, rfl, rfl⟩ := hx
 by_cases hre : r = []
 ·subst hre
  have HK2 : Hid (St w0 (w1.alloc (.cells #[.slice A1 ([] : List Sp).length c1] 103)) F) := Lh (HK.out.weaken fun W h => h.2.2)
  clear HK
  go_wp2_with fail
  go_ret2
  exact .inr ⟨none, 0, [], by unfold splitL; rw [if_pos rfl]; rfl, by simp, rfl, Lh (HK2.out.add (Below.refl _ _) (fun W hW => Items.nil_ _ _ _))⟩
 have hrl : ((r.length : Int) == 0) = false := by
  rw [beq_eq_false_iff_ne]
  have := List.length_pos_iff.2 hre
  omega
 have HS0 : Hid (splitL r (bodies L) = splitF [r] (bodies L)) := by unfold Hid splitL; rw [if_neg hre]
 clear hre
 go_wp2_with fail
 go_loopw [6, 20] (fun ov iv wr => ∃ (k : Nat) (O : List (Item Sp)) (Ao : Option Addr) (co : Nat), k ≤ L.length ∧ iv = .int .i64 k ∧ ov = .slice Ao O.length co ∧ O.length ≤ 1024 ∧ Hid (splitF [r] ((bodies L).take k) = some (bodies O)) ∧ Hid (St w0 wr (fun W => LL Ao O W ∧ F W))) (fun _ iv _ => L.length - (intOf iv).toNat)
 case atStart => exact ⟨0, [(A1, c1, r)], _, 1, Nat.zero_le _, rfl, rfl, by simp, Lh rfl, Lh (HK.out.weaken fun W h => ⟨h.1, h.2.2⟩)⟩
 case round =>
 obtain ⟨k, O, Ao, co, hk, rfl, rfl, hol, HP, HK⟩ := hrel
 by_cases hlt : k < L.length
 ·obtain ⟨gs, offs, sa, sc, s, hS, hx, hcs, hwd⟩ := (hb _ HK.out.now.2).at_ hlt
  have hbk : (bodies L)[k]? = some s := by unfold bodies; rw [List.getElem?_map, hx]; rfl
  have HBK := Lh hbk
  have HK2 := Lh (HK.out.add (Below.refl _ _) (G := Lst sa s) (fun W hW => hwd.below hW))
  have HN := Lh (splitF_next hbk HP.out)
  subst hS
  clear hx hbk hwd hc
  go_wp2_with fail
  refine (Refine_st HK2 (fun _ h => h.2.1) (fun _ h => h.1) (by omega) _ _).mono ?_
  rintro e w2 hR
  rcases hR with ⟨hbig, rfl, HK3⟩ | ⟨hsm, A3, c3, O3, rfl, HST, HK3⟩
  ·have HNN : Hid (splitL r (bodies L) = none) := by
    unfold Hid
    rw [HS0.out]
    exact splitF_none (k := k + 1) (by rw [HN.out, if_pos hbig])
   go_wp2_with fail
   go_ret2
   exact .inl ⟨HNN.out, rfl, Lh (HK3.out.weaken fun W h => h.2.2)⟩
  ·have HNN : Hid (splitF [r] ((bodies L).take (k + 1)) = some (bodies O3)) := by
    unfold Hid
    rw [HN.out, if_neg (by omega), stabS_eq HST.out]
   have hl3 : O3.length ≤ 1024 := by
    have := HST.out.len
    rw [bodies_length] at this
    omega
   go_wp2_with fail
   exact ⟨⟨k + 1, O3, A3, c3, by omega, by go_num, rfl, hl3, HNN, Lh (HK3.out.weaken fun W h => ⟨h.1, h.2.2.2⟩)⟩, by simp [intOf]; omega⟩
 ·obtain rfl : k = L.length := by omega
  have hd : decide (L.length < L.length) = false := by simp
  have HPA : Hid (splitL r (bodies L) = some (bodies O)) := by
   unfold Hid
   rw [HS0.out, ← HP.out, ← bodies_length (L := L), List.take_length]
  go_wp2_with fail
  go_ret2
  exact .inr ⟨Ao, co, O, HPA.out, hol, rfl, HK⟩
end
theorem meetL_eq {a b r : List Sp} (h : Rep r (fun x => Mem a x ∧ Mem b x)) : meetM a b = r := Rep.unique (meetL_rep a b).out h (fun _ => Iff.rfl)
theorem minusL_eq {a b r : List Sp} (h : Rep r (fun x => Mem a x ∧ ¬ Mem b x)) : minusL a b = r := Rep.unique (minusL_rep a b).out h (fun _ => Iff.rfl)
end
section
theorem infoU8 : (Tryz.prog.info? 5).map (fun i => (i.zero, i.size, i.bytes)) = some (some (.int .u8 0), 1, 1) := by kernel_rfl
theorem infoI64 : (Tryz.prog.info? 3).map (fun i => (i.zero, i.size, i.bytes)) = some (some (.int .i64 0), 1, 8) := by kernel_rfl
theorem classI_bd (L : List (List Sp)) (x : Int) : -1 ≤ classI L x ∧ (classI L x < 0 ∨ classI L x < L.length) := by
 unfold classI
 split
 ·rename_i h
  have : L.findIdx (fun l => hasB l x) < L.length := by
   rw [List.findIdx_lt_length]
   simpa using h
  omega
 ·omega
noncomputable def normL (l : List Sp) : List Sp := Classical.choose (rep_norm l)
theorem normL_rep (l : List Sp) : Hid (Rep (normL l) (Mem l)) := Classical.choose_spec (rep_norm l)
noncomputable def leastI (l : List Sp) : Int := if optB (nthS (normL l) 0) then optD (nthS (normL l) 0) else -1
def classes (L : List (List Sp)) (n : Nat) : List Int := (List.range n).map fun i : Nat => classI L (i : Int)
theorem classes_succ (L : List (List Sp)) (n : Nat) : classes L (n + 1) = classes L n ++ [classI L n] := by unfold classes; rw [List.range_succ, List.map_append]; rfl
section
variable {w0 w : World} {F : World → Prop} {A : Option Addr} {L : List (Item Sp)}
def RetRow (w0 : World) (L : List (List Sp)) (F : World → Prop) (e : Ending) (w' : World) : Prop :=
 ((∃ i : Nat, i < 256 ∧ classI L i < 0) ∧ e = .returned (.tuple #[.slice none 0 0, .int .i64 1]) ∧ Hid (St w0 w' F)) ∨
 ((∀ i : Nat, i < 256 → 0 ≤ classI L i) ∧ ∃ B c, e = .returned (.tuple #[.slice B 256 c, .int .i64 0]) ∧ Hid (St w0 w' (fun W => Ints .u8 W B 256 (classes L 256) ∧ F W)))
theorem take_setI (xs : List Value) (k : Nat) (u : Value) (h : k < xs.length) : (xs.set k u).take (k + 1) = xs.take k ++ [u] := by
 rw [take_snoc? (x := u) (by rw [List.getElem?_set_self h]), List.take_set_of_le (Nat.le_refl k)]
theorem Row_st (hK : Hid (St w0 w F)) (hb : ∀ W, F W → LL A L W) (hn : L.length ≤ 256) (c : Nat) : Calls Tryz.prog 124 #[.slice A L.length c] w (RetRow w0 (bodies L) F) := by
 obtain ⟨i0, hi, hz0, hz1, hz2⟩ := info_parts infoU8
 have hn' : ¬ (256 : Int) < L.length := by omega
 go_enter Tryz.func124, Tryz.ntmps124
 go_wp2_with (at_make; go_must (refine wpList_make_full _ rfl _ _ 79 rfl w.heap.size 5 i0 (.int .u8 0) 1 Tryz.underlying79 hi hz0 hz1 _ _ _ _ 256 rfl rfl rfl rfl (by rw [hz2]; omega) (by unfold maxLen; omega) (Nat.le_refl _) ?c3))
 case c3 =>
 intro w1 hown hg
 have HB1 := Lh ((Below.refl w.heap.size w).grown hg (Nat.le_refl _) (by intro k hk; cases hk))
 have HO1 := Lh hown
 clear hown hg hi hz0 hz1 hz2
 go_wp2_with fail
 go_loopw [13] (fun iv wr => ∃ (k : Nat) (xs : List Value), k ≤ 256 ∧ iv = .int .i64 k ∧ Hid (wr.ownsRow w.heap.size 5 1 (.slice (some ⟨w.heap.size, 0, none⟩) 256 256) 256 xs) ∧ Hid (xs.take k = (classes (bodies L) k).map (Value.int .u8)) ∧ Hid (∀ i : Nat, i < k → 0 ≤ classI (bodies L) i) ∧ Hid (Below w.heap.size w wr)) (fun iv _ => 256 - (intOf iv).toNat)
 case atStart => exact ⟨0, _, by omega, rfl, HO1, Lh (by simp [classes]), Lh (fun i hi => by omega), HB1⟩
 case round =>
 obtain ⟨k, xs, hk, rfl, HO, HX, HP, HB⟩ := hrel
 by_cases hlt : k < 256
 ·have hlt' : (k : Int) < 256 := by omega
  obtain ⟨v, hv⟩ : ∃ v, classI (bodies L) (k : Int) = v := ⟨_, rfl⟩
  have hvb := classI_bd (bodies L) (k : Int)
  rw [hv, bodies_length] at hvb
  obtain ⟨hv0, hv1⟩ := hvb
  have HV := Lh hv
  have HS := Lh ((hK.out.step HB.out).add (Below.refl _ _) (G := fun W => W.ownsRow w.heap.size 5 1 (.slice (some ⟨w.heap.size, 0, none⟩) 256 256) 256 xs ∧ Below w.heap.size w W) (fun W hW => ⟨own_below HO.out hW, below_to HB.out hW⟩))
  clear hv
  go_wp2_with fail
  refine (Class_st HS (fun _ h => hb _ h.2) (by omega) _ (k : Int) HV.out).mono ?_
  rintro e w2 ⟨rfl, HS2⟩
  by_cases hneg : v < 0
  ·have HSF : Hid (St w0 w2 F) := Lh (HS2.out.weaken fun W h => h.2)
   go_wp2_with fail
   go_ret2
   exact .inl ⟨⟨k, hlt, by rw [HV.out]; exact hneg⟩, rfl, HSF⟩
  ·have hneg' : ¬ v < 0 := hneg
   obtain ⟨hrow2, hbel2⟩ := HS2.out.now.1
   have hll : k < xs.length := by have := hrow2.1; omega
   have hd : w2.cell? ⟨w.heap.size, k, none⟩ = some (xs[k]) := by rw [hrow2.cellAt k (by omega), List.getElem?_eq_getElem hll]
   have hf := hrow2.frozenAt k
   obtain ⟨hown2, hg2⟩ := hrow2.stored k (.int .u8 v)
   have hvm : IntKind.u8.wrap v = v := by show v % 256 = v; omega
   have HO2 := Lh hown2
   have HB2 := Lh (hbel2.setCell (p := ⟨w.heap.size, k, none⟩) (Nat.le_refl _) (.int .u8 v))
   have HX2 : Hid ((xs.set k (.int .u8 v)).take (k + 1) = (classes (bodies L) (k + 1)).map (Value.int .u8)) := by
    unfold Hid
    rw [take_setI _ _ _ hll, HX.out, classes_succ, List.map_append, HV.out]; rfl
   have HP2 : Hid (∀ i : Nat, i < k + 1 → 0 ≤ classI (bodies L) i) := Lh fun i hi => by
    by_cases e : i = k
    ·subst e; rw [HV.out]; omega
    ·exact HP.out i (by omega)
   generalize xs[k] = u0 at hd
   clear hown2 hg2 hbel2 hll hrow2
   go_wp2_with fail
   exact ⟨⟨k + 1, _, by omega, by go_num, HO2, HX2, HP2, HB2⟩, by simp [intOf]; omega⟩
 ·obtain rfl : k = 256 := by omega
  go_wp2_with fail
  go_ret2
  have e : xs = (classes (bodies L) 256).map (Value.int .u8) := by
   rw [← HX.out, List.take_of_length_le (by have := HO.out.1; omega)]
  refine .inr ⟨HP.out, _, 256, rfl, Lh ((hK.out.add HB.out (fun W hW => ?_)))⟩
  have := HO.out
  rw [e] at this
  exact Sl.below (B := 0) (Sl.of_own this) hW
end
end
def mkB0 (d : DescI) (n mb nb ab eb rb fb N : Nat) : MkB := ⟨d, n, mb, nb, ab, eb, none, 0, [], some ⟨rb, 0, none⟩, N, List.replicate N (none, 0, []), some ⟨fb, 0, none⟩, N, List.replicate N (none, 0, []), List.replicate 256 0, fun _ => False⟩
def mkV0 : MkV := ⟨none, 0, [], none, 0, [], none, 0, [], none, 0, []⟩
structure MkS (d : DescI) (n mb nb ab eb rb fb N : Nat) (W : World) : Prop where
 box : W.heap[mb]? = some (.cells (mkCells (mkB0 d n mb nb ab eb rb fb N) mkV0).toArray 143 (0, 0))
 rws : RwI rb n (List.replicate N (none, 0, [])) W
 fns : RwI fb n (List.replicate N (none, 0, [])) W
 num : MapIs Tryz.prog 150 nb [] W
 am : MapIs Tryz.prog 3 ab [] W
 em : MapIs Tryz.prog 3 eb [] W
 lo : n ≤ mb ∧ n ≤ nb ∧ n ≤ ab ∧ n ≤ eb ∧ n ≤ rb ∧ n ≤ fb
 dis : nb ≠ ab ∧ nb ≠ eb ∧ ab ≠ eb ∧ rb ≠ fb
structure Cl (W wr : World) (n m rb : Nat) (A0 A : Option Addr) (c : Nat) (O : List (Item Sp)) (R : List (Item Int)) : Prop where
 bel : Below n W wr
 blk : ∀ j, j < W.heap.size → j ≠ rb → ownA A0 ≠ some j → wr.heap[j]? = W.heap[j]?
 fam : wr.ownsRow m 103 1 (.slice A O.length c) O.length (icells O)
 new : ∀ g, ownA A = some g → ownA A0 = some g ∨ W.heap.size ≤ g
 rw : RwI rb W.heap.size R wr
theorem tyHI : (103 : TypeId) ≠ 3 := by decide
theorem tyHR : (103 : TypeId) ≠ 62 := by decide
theorem Cl.step {W wr w2 w4 : World} {n m rb : Nat} {A0 A A2 a' : Option Addr} {c c2 c' : Nat} {O : List (Item Sp)} {R : List (Item Int)} {news : List (Item Sp)} {ob o : Obj} {q : Nat} {a : Option Addr} {ca : Nat} {l : List Int} {x : Int} {nq : Nat}
  (h : Cl W wr n m rb A0 A c O R) (hnm : n ≤ m) (hmW : m ≤ W.heap.size) (hnr : n ≤ rb) (hrW : rb < W.heap.size)
  (ho2 : w2.ownsRow m 103 1 (.slice A2 (O.length + news.length) c2) (O.length + news.length) (icells O ++ icells news)) (hg2 : (wr.alloc ob).grownBy w2 (ownA A)) (hn2 : Newer (ownA A) (ownA A2) (wr.heap.size + 1))
  (hx : R[q]? = some (a, ca, l)) (hx64 : I64 x)
  (ho4 : w4.ownsRow W.heap.size 3 1 (.slice a' (l.length + 1) c') (l.length + 1) (l.map (Value.int .i64) ++ [.int .i64 x])) (hg4 : ((w2.drewN nq).alloc o).grownBy w4 (ownA a)) (hn4 : Newer (ownA a) (ownA a') (w2.heap.size + 1)) :
  Cl W (w4.setCell ⟨rb, q, none⟩ (.slice a' (l.length + 1) c')) n m rb A0 A2 c2 (O ++ news) (R.set q (a', c', l ++ [x])) := by
 have hWr := h.bel.size
 have hs2 := hg2.size
 simp at hs2
 have hs4 := hg4.size
 simp at hs4
 have hAr : ownA A ≠ some rb := own_ne_cells h.fam h.rw.blk tyHR
 have hAi : ∀ (i : Nat) y, R[i]? = some y → ∀ k, ownA y.1 = some k → ownA A ≠ some k := fun i y hy k hk => own_apart (h.rw.own i y hy) h.fam (fun e => tyHI e.symm) k hk
 have h2 : ∀ k, k < wr.heap.size → ownA A ≠ some k → w2.heap[k]? = wr.heap[k]? := fun k hk hne => (hg2.block k (by simp; omega) (fun e => hne e.symm)).trans (Below.heap_alloc _ _ _ hk)
 have hR2 : RwI rb W.heap.size R w2 := ⟨(h2 rb (by omega) hAr).trans h.rw.blk, fun i y hy => own_keep (h.rw.own i y hy) fun k hk => h2 k (own_ty (h.rw.own i y hy) hk).2.1 (hAi i y hy k hk), h.rw.dis, h.rw.rng⟩
 have hR3 : RwI rb W.heap.size R (w2.drewN nq) := hR2.keep rfl fun _ _ _ _ => rfl
 have hR := hR3.push hrW (by show W.heap.size ≤ w2.heap.size; omega) hx hx64 ho4 hg4 hn4
 have har : ∀ k, ownA a = some k → W.heap.size ≤ k := fun k hk => (own_ty (h.rw.own q _ hx) hk).1
 have h4 : ∀ k, k < w2.heap.size → ownA a ≠ some k → w4.heap[k]? = w2.heap[k]? := fun k hk hne => (hg4.block k (by simp; omega) (fun e => hne e.symm)).trans (Below.heap_alloc _ _ _ (by simpa using hk))
 have hst : ∀ k, k ≠ rb → (w4.setCell ⟨rb, q, none⟩ (.slice a' (l.length + 1) c')).heap[k]? = w4.heap[k]? := fun k hk => heap_setCell_other _ _ _ _ hk
 have hA2r : ownA A2 ≠ some rb := own_ne_cells ho2 (cs := (icells R).toArray) hR2.blk tyHR
 refine ⟨?_, fun j hj h1 h3 => ?_, ?_, fun g hg => ?_, hR⟩
 ·have b1 : Below n W w2 := (h.bel.alloc (by omega) ob).grown hg2 (by simp; omega) (fun k hk => by have := (own_ty h.fam hk).1; omega)
  have b2 : Below n W w4 := ((below_drewN b1 nq).alloc (by simp; omega) o).grown hg4 (by simp; omega) (fun k hk => by have := har k hk; omega)
  exact b2.setCell (p := ⟨rb, q, none⟩) hnr _
 ·refine (hst j h1).trans ((h4 j (by omega) (fun e => by have := har j e; omega)).trans ((h2 j (by omega) (fun e => ?_)).trans (h.blk j hj h1 h3)))
  rcases h.new j e with e | e
  ·exact h3 e
  ·omega
 ·have hl : (O ++ news).length = O.length + news.length := by simp
  rw [hl, icells_append]
  refine own_keep ho2 fun k hk => ?_
  refine (hst k (fun e => hA2r (e ▸ hk))).trans (h4 k (own_ty ho2 hk).2.1 (fun e => ?_))
  exact own_apart (hR2.own q _ hx) ho2 (fun e => tyHI e.symm) k e hk
 ·rcases hn2 with e | ⟨g2, e, hg2⟩
  ·rw [e] at hg; exact h.new g hg
  ·rw [e] at hg; injection hg with hg; right; omega
section
theorem leastI_bd (l : List Sp) : -1073741826 ≤ leastI l ∧ leastI l ≤ 1073741824 := by
  have h := (normL_rep l).out.1
  unfold leastI
  generalize normL l = m at h ⊢
  cases m with
  | nil => simp [nthS, optB]
  | cons p m =>
    obtain ⟨h1, h2, h3, _⟩ := h
    have e : nthS (p :: m) 0 = some p.1 := by
      unfold nthS
      rw [if_pos (by omega)]; simp
    rw [e]
    simp [optB, optD]
    omega
section
variable {w0 w : World} {F : World → Prop} {A : Option Addr} {L : List (Item Sp)}
theorem Least_own (hK : Hid (St w0 w F)) (hb : ∀ W, F W → LL A L W) (hn : L.length < 1048576) (c : Nat) : Calls Tryz.prog 60 #[.slice A L.length c] w (fun e w' => ∃ B c', e = .returned (.slice B L.length c') ∧ Hid (w'.ownsRow w.heap.size 3 1 (.slice B L.length c') L.length (((bodies L).map leastI).map (Value.int .i64))) ∧ Hid (Below w.heap.size w w')) := by
  obtain ⟨i0, hi, hz0, hz1, hz2⟩ := info_parts infoI64
  go_enter Tryz.func60, Tryz.ntmps60
  go_wp2_with fail
  go_loopw [3, 10] (fun ov iv wr => ∃ (k : Nat) (Ao : Option Addr) (co : Nat), k ≤ L.length ∧ iv = .int .i64 k ∧ ov = .slice Ao k co ∧ Hid (wr.ownsRow w.heap.size 3 1 (.slice Ao k co) k ((((bodies L).take k).map leastI).map (Value.int .i64))) ∧ Hid (Below w.heap.size w wr)) (fun _ iv _ => L.length - (intOf iv).toNat)
  case atStart => exact ⟨0, none, 0, Nat.zero_le _, rfl, rfl, Lh (World.ownsRow_nil _ _ _ _), Lh (Below.refl _ _)⟩
  case round =>
  obtain ⟨k, Ao, co, hk, rfl, rfl, HO, HB⟩ := hrel
  have HS := Lh (hK.out.step HB.out)
  by_cases hlt : k < L.length
  · obtain ⟨gb, off, ba, bc, b, hA, hx, hc, hwd⟩ := (hb _ HS.out.now).at_ hlt
    have hbk : (bodies L)[k]? = some b := by unfold bodies; rw [List.getElem?_map, hx]; rfl
    have HBK := Lh hbk
    have HWD := Lh hwd
    have HF := Lh (First_any ba b.length bc b (normL b) wr hwd.sp hwd.wd hwd.len (normL_rep b).out)
    obtain ⟨x, hx'⟩ : ∃ x, optD (nthS (normL b) 0) = x := ⟨_, rfl⟩
    subst hA
    clear hx hwd hbk
    rcases hB : optB (nthS (normL b) 0) with _ | _
    · rw [hB, hx'] at HF
      have HLE : Hid (leastI b = -1) := by unfold Hid leastI; rw [hB]; rfl
      clear hB hx'
      go_wp2_with (first
        | (go_at_call 118
           refine HF.out.out.mono ?_
           rintro e w1 ⟨rfl, hb1⟩
           have HB1 := Lh (below_to HB.out hb1)
           have HO1 := Lh (own_below HO.out hb1))
        | (at_builtin; go_must (refine wpList_push rfl _ _ 62 rfl w.heap.size 3 i0 _ 1 8 Tryz.underlying62 hi hz0 hz1 hz2 rfl (by decide) HO1.out rfl [.int .i64 (-1)] _ (by first | rfl | (simp; rfl) | simp) rfl (by intro u hu; simp at hu; subst hu; rfl) (by omega) (by omega) HB1.out.size ?_); intro v' w2 hown2 hg2 _))
      obtain ⟨A2, c2, hv2⟩ := own_shape hown2
      subst hv2
      have HB2 := Lh (below_pushed HB1.out HO1.out (Nat.le_refl _) HB1.out.size hg2)
      have HO2 : Hid (w2.ownsRow w.heap.size 3 1 (.slice A2 (k + 1) c2) (k + 1) ((((bodies L).take (k + 1)).map leastI).map (Value.int .i64))) := by
        unfold Hid
        rw [take_snoc? HBK.out, List.map_append, List.map_append]
        simp only [List.map_cons, List.map_nil, HLE.out]
        exact hown2
      clear hown2 hg2
      go_wp2_with fail
      exact ⟨⟨k + 1, A2, c2, by omega, by go_num, rfl, HO2, HB2⟩, by simp [intOf]; omega⟩
    · rw [hB, hx'] at HF
      have HLE : Hid (leastI b = x) := by unfold Hid leastI; rw [hB, hx']; rfl
      clear hB hx'
      go_wp2_with (first
        | (go_at_call 118
           refine HF.out.out.mono ?_
           rintro e w1 ⟨rfl, hb1⟩
           have HB1 := Lh (below_to HB.out hb1)
           have HO1 := Lh (own_below HO.out hb1))
        | (at_builtin; go_must (refine wpList_push rfl _ _ 62 rfl w.heap.size 3 i0 _ 1 8 Tryz.underlying62 hi hz0 hz1 hz2 rfl (by decide) HO1.out rfl [.int .i64 x] _ (by first | rfl | (simp; rfl) | simp) rfl (by intro u hu; simp at hu; subst hu; rfl) (by omega) (by omega) HB1.out.size ?_); intro v' w2 hown2 hg2 _))
      obtain ⟨A2, c2, hv2⟩ := own_shape hown2
      subst hv2
      have HB2 := Lh (below_pushed HB1.out HO1.out (Nat.le_refl _) HB1.out.size hg2)
      have HO2 : Hid (w2.ownsRow w.heap.size 3 1 (.slice A2 (k + 1) c2) (k + 1) ((((bodies L).take (k + 1)).map leastI).map (Value.int .i64))) := by
        unfold Hid
        rw [take_snoc? HBK.out, List.map_append, List.map_append]
        simp only [List.map_cons, List.map_nil, HLE.out]
        exact hown2
      clear hown2 hg2
      go_wp2_with fail
      exact ⟨⟨k + 1, A2, c2, by omega, by go_num, rfl, HO2, HB2⟩, by simp [intOf]; omega⟩
  · obtain rfl : k = L.length := by omega
    have hd : decide (L.length < L.length) = false := by simp
    go_wp2_with fail
    go_ret
    have h := HO.out
    rw [← bodies_length (L := L), List.take_length, bodies_length] at h
    exact ⟨Ao, co, rfl, Lh h, HB⟩
end
end
end Go.Proofs.YtlmkokeapbleoaaGreat
