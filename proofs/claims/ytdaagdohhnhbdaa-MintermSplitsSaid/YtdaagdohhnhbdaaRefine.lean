/- Contract of minterm.Refine: the parts of some lists by one more set, sorted; or that there are too many. Condition: the lists at hand are known, fewer than 2^20. -/
import Derived.Test.YtdaagdohhnhbdaaMint
namespace Go.Proofs.Ytdaagdohhnhbdaa
open Go.RowKit
set_option linter.unusedVariables false
set_option linter.unusedSimpArgs false

/-- a list's place is new, or it is empty -/
def RetLB (w0 : World) (B : Nat) (r : List Sp) (F : World → Prop) (e : Ending) (w' : World) : Prop := ∃ A c, e = .returned (.slice A r.length c) ∧ (r = [] ∨ ∃ g, A = some ⟨g, 0, none⟩ ∧ B ≤ g) ∧ Hid (St w0 w' (fun W => Lst A r W ∧ F W))
theorem retLB_own {w0 w w' : World} {r : List Sp} {F : World → Prop} {e : Ending} (hK : Hid (St w0 w F)) (hp : Plain r) (ho : OwnList w w.heap.size r e w') : RetLB w0 w.heap.size r F e w' := by
  obtain ⟨v, rfl, hown, hb⟩ := ho
  rcases id hown.2 with ⟨rfl, hx⟩ | ⟨g, cap, cur, rfl, hg1, hg2, hg3, hg4, _⟩
  · have hr : r = [] := List.eq_nil_of_length_eq_zero hx
    subst hr
    exact ⟨none, 0, rfl, .inl rfl, Lib.hid (hK.out.add hb (hp.lst (Sl.nil_ _ _ _)))⟩
  · exact ⟨_, cap, rfl, .inr ⟨g, rfl, hg1⟩, Lib.hid (hK.out.add hb (hp.lst (Sl.of_own hown)))⟩
section
variable {w0 w : World} {F : World → Prop} {A B : Option Addr} {a b r : List Sp}
theorem Meet_stB (hK : Hid (St w0 w F)) (ha : ∀ W, F W → Lst A a W) (hb : ∀ W, F W → Lst B b W) (c d : Nat) (hr : Hid (Rep r (fun x => Mem a x ∧ Mem b x))) : Calls Try.prog 29 #[.slice A a.length c, .slice B b.length d] w (RetLB w0 w.heap.size r F) := by
  have h1 := ha w hK.out.now
  have h2 := hb w hK.out.now
  refine (Meet_any A B _ c _ d a b w h1.sp h2.sp h1.wd h2.wd (by have := h1.len; omega) (by have := h2.len; omega)).mono ?_
  rintro e w1 ⟨r', ho, hr', _⟩
  obtain rfl := Rep.unique hr' hr.out (fun _ => Iff.rfl)
  exact retLB_own hK hr'.1 ho
theorem Minus_stB (hK : Hid (St w0 w F)) (ha : ∀ W, F W → Lst A a W) (hb : ∀ W, F W → Lst B b W) (c d : Nat) (hr : Hid (Rep r (fun x => Mem a x ∧ ¬ Mem b x))) : Calls Try.prog 66 #[.slice A a.length c, .slice B b.length d] w (RetLB w0 w.heap.size r F) := by
  have h1 := ha w hK.out.now
  have h2 := hb w hK.out.now
  refine (Minus_any A B _ c _ d a b w h1.sp h2.sp h1.wd h2.wd (by have := h1.len; omega) (by have := h2.len; omega)).mono ?_
  rintro e w1 ⟨r', ho, hr', _⟩
  obtain rfl := Rep.unique hr' hr.out (fun _ => Iff.rfl)
  exact retLB_own hK hr'.1 ho
end
section
variable {w0 : World} {ops : Array Oper} {rest : List Oper} {o : Oper} {a : Act} {Q : Exit → Act → World → Prop} {base : Nat} {A : Option Addr} {c n : Nat} {xs : List Value}
theorem wpList_pushL (hgd : o.guard = none) (s x : Operand) (ho : o.op = .call { callee := .builtin .append, args := #[s, x], argTypes := #[45, 45] })
    (hown : w0.ownsRow base 24 1 (.slice A n c) n xs) (hs : a.eval s = .slice A n c) (u : Value) (hu : u.oneCell' = true) (hx : a.eval x = .slice (some ⟨w0.heap.size, 0, none⟩) 1 1) (hn : n < 1099511627776) (hbase : base ≤ w0.heap.size)
    (h : ∀ A' c' w', Hid (w'.ownsRow base 24 1 (.slice A' (n + 1) c') (n + 1) (xs ++ [u])) → Hid ((w0.alloc (.cells #[u] 24)).grownBy w' (Value.ownBlock (.slice A n c))) →
      Hid (Value.ownBlock (.slice A' (n + 1) c') = Value.ownBlock (.slice A n c) ∨ Value.ownBlock (.slice A' (n + 1) c') = some (w0.heap.size + 1)) → wpList Try.prog ops Q rest (a.put o.dst (.slice A' (n + 1) c')) w') :
    wpList Try.prog ops Q (o :: rest) a (w0.alloc (.cells #[u] 24)) := by
  obtain ⟨i0, hi, hz0, hz1, hz2⟩ := info_parts infoHd
  have hs0 : (w0.alloc (.cells #[u] 24)).heap.size = w0.heap.size + 1 := by simp
  refine wpList_append_own_at _ hgd s x 45 ho base 24 i0 _ 1 24 Try.underlying45 hi hz0 hz1 hz2 rfl (by decide) _ n xs hs (hown.alloc _) ⟨w0.heap.size, 0, none⟩ 1 1 [u] hx rfl ?_ (by intro v hv; simp at hv; subst hv; exact hu)
    (by unfold maxLen; omega) (by omega) (by rw [hs0]; omega) ?_
  · exact World.news_of_block (cs := #[u]) (t := 24) (fr := (0, 0)) (heap_alloc_new w0 _)
  · intro v' w' hown' hg _ hat
    obtain ⟨A', c', rfl⟩ := own_shape hown'
    rw [hs0] at hat
    exact h A' c' w' hown' hg hat
end
/-- what a list of lists is known by -/
def LL (A : Option Addr) (O : List (Item Sp)) (W : World) : Prop := Items Lst A O.length O W
theorem Lst.lasts : Lasts Lst := fun A l w w' h hb => h.below hb
theorem LL.below {A : Option Addr} {O : List (Item Sp)} {w w' : World} (h : LL A O w) (hb : Below w.heap.size w w') : LL A O w' := Items.below h Lst.lasts hb
theorem LRow.ll {W : World} {base : Nat} {A : Option Addr} {c : Nat} {O : List (Item Sp)} (h : LRow W base A c O) : LL A O W := ⟨Sl.of_own h.row, fun i hi => (h.it i hi).1⟩
def RetR (w0 : World) (P : List (List Sp)) (F : World → Prop) (e : Ending) (w' : World) : Prop :=
  (1024 < P.length ∧ e = .returned (.tuple #[.slice none 0 0, .int .i64 4]) ∧ Hid (St w0 w' F)) ∨
  (P.length ≤ 1024 ∧ ∃ A c O, e = .returned (.tuple #[.slice A O.length c, .int .i64 0]) ∧ Hid (StabRel P (bodies O)) ∧ Hid (St w0 w' (fun W => LL A O W ∧ F W)))
def stp (P : List (List Sp)) (m1 m2 : List Sp) : Nat → List (List Sp)
  | 0 => P
  | 1 => addL P m1
  | _ => addL (addL P m1) m2
/-- a list that may come into the row -/
def XOk (W : World) (X : Option Addr) (m : List Sp) (A : Option Addr) (n c : Nat) : Prop := m = [] ∨ ∃ g, X = some ⟨g, 0, none⟩ ∧ Lst X m W ∧ some g ≠ Value.ownBlock (.slice A n c)
theorem XOk.grown {W W' : World} {X A A' : Option Addr} {m : List Sp} {n c n' c' : Nat} {ob : Obj} (h : XOk W X m A n c) (hg : (W.alloc ob).grownBy W' (Value.ownBlock (.slice A n c)))
    (hat : Value.ownBlock (.slice A' n' c') = Value.ownBlock (.slice A n c) ∨ Value.ownBlock (.slice A' n' c') = some (W.heap.size + 1)) : XOk W' X m A' n' c' := by
  rcases h with h | ⟨g, rfl, h1, h2⟩
  · exact .inl h
  · by_cases hm : m = []
    · exact .inl hm
    · obtain ⟨b2, off2, _, e2, _, hc, _⟩ := h1.sp.at_ (j := 0) (List.length_pos_iff.2 hm)
      injection e2 with e2
      injection e2 with e3 e4 e5
      subst e3
      have hlt := lt_of_cell hc
      refine .inr ⟨g, rfl, (h1.below ((Below.refl _ _).alloc (Nat.le_refl _) ob)).grown hg rfl h2, ?_⟩
      rcases hat with e | e
      · rw [e]; exact h2
      · rw [e]; intro e'; injection e' with e'; omega

set_option maxHeartbeats 4000000 in
theorem sortNil_any (W : World) : Calls Try.prog 78 #[.slice none 0 0, .func (.func 79) #[] #[]] W fun e w' => e = .returned (.tuple #[]) ∧ W = w' := by
  have HI : Hid (∀ W : World, Calls Try.prog 112 #[.slice none 0 0, .int .i64 0, .int .i64 0, .func (.func 79) #[] #[]] W fun e w' => e = .returned (.tuple #[]) ∧ W = w') := Lib.hid fun W => by
    go_enter Try.func112, Try.ntmps112
    go_wp2_with fail
    refine wp_loop_rounds 1 ?_
    rw [rounds_succ]
    go_wp2_with fail
    go_end0
    exact ⟨rfl, rfl⟩
  have HS : Hid (∀ W : World, Calls Try.prog 101 #[.slice none 0 0, .int .i64 0, .func (.func 79) #[] #[]] W fun e w' => e = .returned (.tuple #[]) ∧ W = w') := Lib.hid fun W => by
    go_enter Try.func101, Try.ntmps101
    go_wp2_with fail
    refine wp_loop_rounds 1 ?_
    rw [rounds_succ]
    go_wp2_with (go_at_call 112; refine (HI.out _).mono ?_; rintro e w1 ⟨rfl, rfl⟩)
    refine wp_loop_rounds 1 ?_
    rw [rounds_succ]
    go_wp2_with fail
    go_end0
    exact ⟨rfl, rfl⟩
  go_enter Try.func78, Try.ntmps78
  go_wp2_with (go_at_call 101; refine (HS.out _).mono ?_; rintro e w1 ⟨rfl, rfl⟩)
  go_end0
  exact ⟨rfl, rfl⟩

theorem arr0 (A : Option Addr) (n c : Nat) (B : Option Addr) (m d : Nat) (w : World) : (Instr.index 96 (.agg #[.slice A n c, .slice B m d]) (.int .i64 0)).run Try.prog w = .ok (.slice A n c) w := by
  have hu := run_underlying Try.underlying96
  have a24 := Try.isAgg24
  have z24 := Try.sizeOf24
  simp [Instr.index, asIntOf, hu, go_sem, a24, z24]
theorem arr1 (A : Option Addr) (n c : Nat) (B : Option Addr) (m d : Nat) (w : World) : (Instr.index 96 (.agg #[.slice A n c, .slice B m d]) (.int .i64 1)).run Try.prog w = .ok (.slice B m d) w := by
  have hu := run_underlying Try.underlying96
  have a24 := Try.isAgg24
  have z24 := Try.sizeOf24
  simp [Instr.index, asIntOf, hu, go_sem, a24, z24]
theorem snocI (O : List (Item Sp)) : O = [] ∨ 0 < O.length := by cases O <;> simp
theorem addL_nil {P : List (List Sp)} {x : List Sp} (h : x = []) : addL P x = P := if_pos h
theorem addL_cons {P : List (List Sp)} {x : List Sp} (h : x ≠ []) : addL P x = P ++ [x] := if_neg h
section
variable {w0 w : World} {F : World → Prop} {A B : Option Addr} {L : List (Item Sp)} {s : List Sp}
set_option maxRecDepth 100000 in
set_option maxHeartbeats 32000000 in
theorem Refine_st (hK : Hid (St w0 w F)) (hb : ∀ W, F W → LL A L W) (hs : ∀ W, F W → Lst B s W) (hn : L.length < 1048576) (c d : Nat) :
    Calls Try.prog 43 #[.slice A L.length c, .slice B s.length d] w (RetR w0 (parts s [] (bodies L)) F) := by
  have hix0 := arr0
  have hix1 := arr1
  go_enter Try.func43, Try.ntmps43
  go_wp2_with fail
  go_loopw [6, 13] (fun ov kv wr => ∃ (k : Nat) (O : List (Item Sp)) (Ao : Option Addr) (co : Nat), k ≤ L.length ∧ kv = .int .i64 k ∧ ov = .slice Ao O.length co ∧ O.length ≤ 1024 ∧ Hid (LRow wr w.heap.size Ao co O) ∧ Hid (bodies O = parts s [] ((bodies L).take k)) ∧ Hid (Below w.heap.size w wr)) (fun _ kv _ => L.length - (intOf kv).toNat)
  case atStart => exact ⟨0, [], none, 0, Nat.zero_le _, rfl, rfl, by simp, Lib.hid (LRow.start _ _), Lib.hid rfl, Lib.hid (Below.refl _ _)⟩
  case round =>
  obtain ⟨k, O, Ao, co, hk, rfl, rfl, hol, HO, HP, HB⟩ := hrel
  have HS := Lib.hid (hK.out.step HB.out)
  by_cases hlt : k < L.length
  · obtain ⟨gb, off, ba, bc, b, hA, hx, hc, hwd⟩ := (hb _ HS.out.now).at_ hlt
    have hbk : (bodies L)[k]? = some b := by unfold bodies; rw [List.getElem?_map, hx]; rfl
    have HN := Lib.hid (parts_next (s := s) hbk)
    obtain ⟨m1, hm1⟩ : ∃ m, meetL b s = m := ⟨_, rfl⟩
    obtain ⟨m2, hm2⟩ : ∃ m, minusL b s = m := ⟨_, rfl⟩
    have R1 : Hid (Rep m1 (fun x => Mem b x ∧ Mem s x)) := by rw [← hm1]; exact meetL_rep b s
    have R2 : Hid (Rep m2 (fun x => Mem b x ∧ ¬ Mem s x)) := by rw [← hm2]; exact minusL_rep b s
    rw [hm1, hm2, ← HP.out] at HN
    have HK1 := Lib.hid (HS.out.add (Below.refl _ _) (G := fun W => LRow W w.heap.size Ao co O ∧ Lst ba b W ∧ Below w.heap.size w W ∧ Below wr.heap.size wr W) (fun W hW => ⟨HO.out.below hW, hwd.below hW, below_to HB.out hW, hW⟩))
    have hgs : ∀ g, Value.ownBlock (.slice Ao O.length co) = some g → g < wr.heap.size := fun g e => (HO.out.row.lt g e).2
    have HGS := Lib.hid hgs
    subst hA
    clear hx hwd hbk hm1 hm2 hgs
    go_wp2_with fail
    refine (Meet_stB HK1 (fun _ h => h.1.2.1) (fun _ h => hs _ h.2) _ _ R1).mono ?_
    rintro e w1 ⟨X1, c1, rfl, hX1, HK2⟩
    have HXB1 := Lib.hid hX1
    have hsz1 : wr.heap.size ≤ w1.heap.size := HK2.out.now.2.1.2.2.2.size
    clear hX1
    go_wp2_with fail
    refine (Minus_stB HK2 (fun _ h => h.2.1.2.1) (fun _ h => hs _ h.2.2) _ _ R2).mono ?_
    rintro e w2 ⟨X2, c2, rfl, hX2, HK3⟩
    have HXB2 := Lib.hid hX2
    clear hX2
    obtain ⟨hl2, hl1, ⟨hrow, _, hbw, _⟩, _⟩ := HK3.out.now
    have HO2 := Lib.hid hrow
    have HB2 := Lib.hid hbw
    have HX1 : Hid (XOk w2 X1 m1 Ao O.length co) := by
      rcases HXB1.out with h | ⟨g, hg, hge⟩
      · exact .inl h
      · exact .inr ⟨g, hg, hl1, fun e => by have := HGS.out g e.symm; omega⟩
    have HX2 : Hid (XOk w2 X2 m2 Ao O.length co) := by
      rcases HXB2.out with h | ⟨g, hg, hge⟩
      · exact .inl h
      · exact .inr ⟨g, hg, hl2, fun e => by have := HGS.out g e.symm; omega⟩
    have hml : m1.length < 137438953472 ∧ m2.length < 137438953472 := ⟨hl1.len, hl2.len⟩
    obtain ⟨hml1, hml2⟩ := hml
    obtain ⟨P, hP⟩ : ∃ P, bodies O = P := ⟨_, rfl⟩
    have HPP : Hid (bodies O = stp P m1 m2 0) := Lib.hid hP
    rw [hP] at HN
    clear hl2 hl1 hrow hbw HK1 HK2 HK3 HXB1 HXB2 HGS hP R1 R2
    go_wp2_with fail
    go_loopw [6, 24] (fun ov jv wq => ∃ (j : Nat) (M : List (Item Sp)) (Am : Option Addr) (cm : Nat), j ≤ 2 ∧ jv = .int .i64 j ∧ ov = .slice Am M.length cm ∧ M.length ≤ 1024 + j ∧ Hid (LRow wq w.heap.size Am cm M) ∧ Hid (bodies M = stp P m1 m2 j) ∧ Hid (XOk wq X1 m1 Am M.length cm) ∧ Hid (XOk wq X2 m2 Am M.length cm) ∧ Hid (Below w.heap.size w wq)) (fun _ jv _ => 2 - (intOf jv).toNat)
    case atStart => exact ⟨0, O, Ao, co, by omega, rfl, rfl, by omega, HO2, HPP, HX1, HX2, HB2⟩
    case round =>
    obtain ⟨j, M, Am, cm, hj, rfl, rfl, hml, HM, HPM, HY1, HY2, HBM⟩ := hrel
    have hj3 : j = 0 ∨ j = 1 ∨ j = 2 := by omega
    rcases hj3 with rfl | rfl | rfl
    · by_cases hm : m1 = []
      · subst hm
        have HPN : Hid (bodies M = stp P [] m2 1) := by unfold Hid; rw [HPM.out]; rfl
        go_wp2_with fail
        exact ⟨⟨1, M, Am, cm, by omega, by go_num, rfl, by omega, HM, HPN, HY1, HY2, HBM⟩, by simp [intOf]⟩
      · have hpos : (0 : Int) < m1.length := by have := List.length_pos_iff.2 hm; omega
        obtain ⟨gx, hgx, hlx, hnx⟩ := HY1.out.resolve_left hm
        have HLX := Lib.hid hlx
        have HNX := Lib.hid hnx
        have HMM := Lib.hid hm
        have HPN : Hid (bodies M ++ [m1] = stp P m1 m2 1) := by unfold Hid; rw [HPM.out]; exact (addL_cons hm).symm
        subst hgx
        clear hlx hnx hm
        go_wp2_with (at_builtin; go_must (refine wpList_pushL rfl _ _ rfl HM.out.row rfl (.slice (some ⟨gx, 0, none⟩) m1.length c1) rfl (by first | rfl | (simp; rfl) | simp) (by omega) HBM.out.size ?_); intro A5 c5 w5 HO5 HG5 HAT5)
        have HM5 := Lib.hid (HM.out.pushed (cx := c1) HLX.out HMM.out HNX.out (by rw [icells_append]; exact HO5.out) HG5.out HAT5.out)
        have hl5 : (M ++ [((some ⟨gx, 0, none⟩, c1, m1) : Item Sp)]).length = M.length + 1 := by simp
        exact ⟨⟨1, M ++ [(some ⟨gx, 0, none⟩, c1, m1)], A5, c5, by omega, by go_num, by rw [hl5], by rw [hl5]; omega, HM5, by unfold Hid; rw [bodies_append]; exact HPN.out, by rw [hl5]; exact Lib.hid (HY1.out.grown HG5.out HAT5.out), by rw [hl5]; exact Lib.hid (HY2.out.grown HG5.out HAT5.out), Lib.hid (HM.out.bel (n := 0) HBM.out HG5.out HBM.out.size)⟩, by simp [intOf]⟩
    · by_cases hm : m2 = []
      · subst hm
        have HPN : Hid (bodies M = stp P m1 [] 2) := by unfold Hid; rw [HPM.out]; rfl
        go_wp2_with fail
        exact ⟨⟨2, M, Am, cm, by omega, by go_num, rfl, by omega, HM, HPN, HY1, HY2, HBM⟩, by simp [intOf]⟩
      · have hpos : (0 : Int) < m2.length := by have := List.length_pos_iff.2 hm; omega
        obtain ⟨gx, hgx, hlx, hnx⟩ := HY2.out.resolve_left hm
        have HLX := Lib.hid hlx
        have HNX := Lib.hid hnx
        have HMM := Lib.hid hm
        have HPN : Hid (bodies M ++ [m2] = stp P m1 m2 2) := by unfold Hid; rw [HPM.out]; exact (addL_cons hm).symm
        subst hgx
        clear hlx hnx hm
        go_wp2_with (at_builtin; go_must (refine wpList_pushL rfl _ _ rfl HM.out.row rfl (.slice (some ⟨gx, 0, none⟩) m2.length c2) rfl (by first | rfl | (simp; rfl) | simp) (by omega) HBM.out.size ?_); intro A5 c5 w5 HO5 HG5 HAT5)
        have HM5 := Lib.hid (HM.out.pushed (cx := c2) HLX.out HMM.out HNX.out (by rw [icells_append]; exact HO5.out) HG5.out HAT5.out)
        have hl5 : (M ++ [((some ⟨gx, 0, none⟩, c2, m2) : Item Sp)]).length = M.length + 1 := by simp
        exact ⟨⟨2, M ++ [(some ⟨gx, 0, none⟩, c2, m2)], A5, c5, by omega, by go_num, by rw [hl5], by rw [hl5]; omega, HM5, by unfold Hid; rw [bodies_append]; exact HPN.out, by rw [hl5]; exact Lib.hid (HY1.out.grown HG5.out HAT5.out), by rw [hl5]; exact Lib.hid (HY2.out.grown HG5.out HAT5.out), Lib.hid (HM.out.bel (n := 0) HBM.out HG5.out HBM.out.size)⟩, by simp [intOf]⟩
    · have HPK : Hid (bodies M = parts s [] ((bodies L).take (k + 1))) := Lib.hid (HPM.out.trans HN.out.symm)
      by_cases hbig : 1024 < M.length
      · have hbig' : (1024 : Int) < M.length := by omega
        have HKE := Lib.hid (hK.out.step HBM.out)
        have HLE : Hid (1024 < (parts s [] (bodies L)).length) := by
          unfold Hid
          have h1 := parts_append s ((bodies L).take (k + 1)) ((bodies L).drop (k + 1)) []
          rw [List.take_append_drop] at h1
          rw [h1, ← HPK.out]
          have h2 := parts_len s ((bodies L).drop (k + 1)) (bodies M)
          rw [bodies_length] at h2
          omega
        go_wp2_with fail
        go_ret2
        exact .inl ⟨HLE.out, rfl, HKE⟩
      · have hbig' : ¬ (1024 : Int) < M.length := by omega
        go_wp2_with fail
        exact ⟨⟨k + 1, M, Am, cm, by omega, by go_num, rfl, by omega, HM, HPK, HBM⟩, by simp [intOf]; omega⟩
  · obtain rfl : k = L.length := by omega
    have hd : decide (L.length < L.length) = false := by simp
    have HPA : Hid (bodies O = parts s [] (bodies L)) := by
      have := HP.out
      rw [← bodies_length (L := L), List.take_length] at this
      exact this
    have HLE : Hid ((parts s [] (bodies L)).length ≤ 1024) := by
      unfold Hid
      rw [← HPA.out, bodies_length]; exact hol
    rcases snocI O with rfl | hne
    · obtain ⟨rfl, rfl⟩ := HO.out.nil rfl
      go_wp2_with fail
      refine (sortNil_any wr).mono ?_
      rintro e w3 ⟨rfl, rfl⟩
      go_wp2_with fail
      go_ret2
      exact .inr ⟨HLE.out, none, 0, [], rfl, by rw [← HPA.out]; exact Lib.hid StabRel.nil_, Lib.hid (HS.out.add (Below.refl _ _) (fun W hW => HO.out.ll.below hW))⟩
    · obtain ⟨g, cap, hv, hg1, hg2⟩ := HO.out.row.form hne
      obtain ⟨rfl, rfl⟩ : Ao = some ⟨g, 0, none⟩ ∧ co = cap := by injection hv with h1 h2 h3; exact ⟨h1, h3⟩
      clear hv
      have hkl := kvs_len O
      go_wp2_with fail
      rw [← hkl]
      refine (sortStable_any w.heap.size g co (kvs O) wr (Lib.hid HO.out.kst) (Lib.hid (kvs_ix O _)) (by rw [hkl]; omega)).mono ?_
      rintro e w3 ⟨rfl, ys, ⟨r1, r2⟩, r3, r4⟩
      obtain ⟨O', o1, o2, o3⟩ := HO.out.sorted r1 r2 r3 r4
      have HO3 := Lib.hid o2
      have HST := Lib.hid o3
      have HB3 := Lib.hid (HB.out.grown r4 HB.out.size (fun k e => by injection e with e; omega))
      clear r1 r2 r3 r4 o2 o3
      rw [hkl]
      go_wp2_with fail
      go_ret2
      exact .inr ⟨HLE.out, _, co, O', (by rw [o1]; rfl), by rw [← HPA.out]; exact HST, Lib.hid ((hK.out.add HB3.out (fun W hW => HO3.out.ll.below hW)))⟩
end
end Go.Proofs.Ytdaagdohhnhbdaa
