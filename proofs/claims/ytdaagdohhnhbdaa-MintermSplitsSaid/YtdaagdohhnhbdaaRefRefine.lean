/- Contract of umlautref05.Refine: the parts of some lists by one more set, sorted as they come. Condition: the lists at hand are known, fewer than 2^20 spans in each, at most 500 lists. -/
import Derived.Test.YtdaagdohhnhbdaaRefine
import Derived.Deep.QuietTactic
namespace Go.Proofs.Ytdaagdohhnhbdaa
open Go.RowKit
set_option linter.unusedVariables false
set_option linter.unusedSimpArgs false

theorem StabRel.add {P Q : List (List Sp)} {x : List Sp} {j : Nat} (h : StabRel P Q) (hj : j ≤ Q.length) (h1 : ∀ p y, j ≤ p → Q[p]? = some y → keyS x < keyS y) (h2 : ∀ p y, p + 1 = j → Q[p]? = some y → keyS y ≤ keyS x) :
    StabRel (P ++ [x]) (Q.take j ++ [x] ++ Q.drop j) := by
  obtain ⟨ix, a1, rfl, a3⟩ := h
  have hl : ix.length = P.length := by rw [a1.length_eq, List.length_range]
  have hlt : ∀ i ∈ ix, i < P.length := fun i hi => List.mem_range.1 (a1.mem_iff.1 hi)
  have hget : ∀ i ∈ ix, (P ++ [x])[i]! = P[i]! := fun i hi => by
    have := hlt i hi
    rw [getElem!_pos (P ++ [x]) i (by simp; omega), getElem!_pos P i this, List.getElem_append_left this]
  have hx : (P ++ [x])[P.length]! = x := by rw [getElem!_pos _ _ (by simp)]; simp
  rw [List.length_map] at hj
  have hkey : ∀ p i, ix[p]? = some i → (ix.map fun i => P[i]!)[p]? = some P[i]! := fun p i hi => by rw [List.getElem?_map, hi]; rfl
  refine ⟨ix.take j ++ [P.length] ++ ix.drop j, ?_, ?_, ?_⟩
  · rw [List.length_append, List.length_singleton, List.range_succ]
    have e : (ix.take j ++ [P.length] ++ ix.drop j).Perm (ix ++ [P.length]) := by
      rw [List.append_assoc]
      refine (List.Perm.append_left _ (List.perm_append_comm)).trans ?_
      rw [← List.append_assoc, List.take_append_drop]
    exact e.trans (a1.append_right _)
  · rw [List.map_append, List.map_append, List.map_take, List.map_drop]
    have e : ix.map (fun i => (P ++ [x])[i]!) = ix.map (fun i => P[i]!) := List.map_congr_left hget
    rw [e]
    simp only [List.map_cons, List.map_nil, hx]
  · have key1 : ∀ i ∈ ix.take j, keyS P[i]! ≤ keyS x := by
      intro i hi
      obtain ⟨p, hp⟩ := List.getElem?_of_mem hi
      have hpj : p < j := by
        have := (List.getElem?_eq_some_iff.1 hp).1
        simp at this; omega
      rw [List.getElem?_take_of_lt hpj] at hp
      have hjl : j - 1 < ix.length := by omega
      have hq : ix[j - 1]? = some (ix[j - 1]) := List.getElem?_eq_getElem hjl
      have g1 := h2 (j - 1) _ (by omega) (hkey _ _ hq)
      by_cases e : p = j - 1
      · subst e; rw [hq] at hp; injection hp with hp; subst hp; exact g1
      · obtain ⟨hp1, hp2⟩ := List.getElem?_eq_some_iff.1 hp
        have := (List.pairwise_iff_getElem.1 a3) p (j - 1) hp1 hjl (by omega)
        rw [hp2] at this
        omega
    have key2 : ∀ i ∈ ix.drop j, keyS x < keyS P[i]! := by
      intro i hi
      obtain ⟨p, hp⟩ := List.getElem?_of_mem hi
      rw [List.getElem?_drop] at hp
      exact h1 (j + p) _ (by omega) (hkey _ _ hp)
    rw [List.append_assoc, List.pairwise_append]
    refine ⟨?_, ?_, ?_⟩
    · refine (a3.sublist (List.take_sublist _ _)).imp_of_mem ?_
      intro a b ha hb hab
      rw [hget a (List.mem_of_mem_take ha), hget b (List.mem_of_mem_take hb)]; exact hab
    · rw [List.singleton_append, List.pairwise_cons]
      refine ⟨fun b hb => ?_, (a3.sublist (List.drop_sublist _ _)).imp_of_mem ?_⟩
      · rw [hx, hget b (List.mem_of_mem_drop hb)]; exact .inl (key2 b hb)
      · intro a b ha hb hab
        rw [hget a (List.mem_of_mem_drop ha), hget b (List.mem_of_mem_drop hb)]; exact hab
    · intro a ha b hb
      rw [hget a (List.mem_of_mem_take ha)]
      rcases List.mem_append.1 hb with hb | hb
      · simp at hb; subst hb
        rw [hx]
        have := key1 a ha
        have := hlt a (List.mem_of_mem_take ha)
        omega
      · rw [hget b (List.mem_of_mem_drop hb)]
        have := key1 a ha
        have := key2 b hb
        exact .inl (by omega)

section
variable {w0 w : World} {F : World → Prop} {A B : Option Addr} {a b r : List Sp}
theorem retLB_new {e : Ending} {w' : World} {S : Int → Prop} (hK : Hid (St w0 w F)) (h : NewRep w S e w') (hr : Hid (Rep r S)) : RetLB w0 w.heap.size r F e w' := by
  obtain ⟨r', ⟨A1, n1, c1, rfl, hsp, hc, hm, hb⟩, hr', _, A2, n2, c2, e2, hf⟩ := h
  obtain rfl := Rep.unique hr' hr.out (fun _ => Iff.rfl)
  injection e2 with e2
  injection e2 with e2 e3 e4
  subst e2; subst e3
  have := hsp.len
  subst this
  refine ⟨A1, c1, rfl, ?_, Lib.hid (hK.out.add hb (hr'.1.lst hsp))⟩
  rcases hf with hf | hf
  · exact .inl (List.eq_nil_of_length_eq_zero hf)
  · exact .inr hf
theorem rMeet_stB (hK : Hid (St w0 w F)) (ha : ∀ W, F W → Lst A a W) (hb : ∀ W, F W → Lst B b W) (hn : a.length < 1048576) (hm : b.length < 1048576) (c d : Nat) (hr : Hid (Rep r (fun x => Mem a x ∧ Mem b x))) : Calls Try.prog 64 #[.slice A a.length c, .slice B b.length d, .int .i64 1] w (RetLB w0 w.heap.size r F) := by
  have h1 := ha w hK.out.now
  have h2 := hb w hK.out.now
  refine (Make1_any A B _ c _ d a b w h1.sp h2.sp h1.wd h2.wd hn hm).mono ?_
  intro e w1 h
  exact retLB_new hK h (Lib.hid (hr.out.congr fun x => (madeB_1 a b x).symm))
theorem rLess_stB (hK : Hid (St w0 w F)) (ha : ∀ W, F W → Lst A a W) (hb : ∀ W, F W → Lst B b W) (hn : a.length < 1048576) (hm : b.length < 1048576) (c d : Nat) (hr : Hid (Rep r (fun x => Mem a x ∧ ¬ Mem b x))) : Calls Try.prog 64 #[.slice A a.length c, .slice B b.length d, .int .i64 2] w (RetLB w0 w.heap.size r F) := by
  have h1 := ha w hK.out.now
  have h2 := hb w hK.out.now
  refine (Make2_any A B _ c _ d a b w h1.sp h2.sp h1.wd h2.wd hn hm).mono ?_
  intro e w1 h
  exact retLB_new hK h (Lib.hid (hr.out.congr fun x => (madeB_2 a b x).symm))
end
/-- a header stored in place -/
theorem LRow.store {W : World} {base g c : Nat} {M : List (Item Sp)} (h : LRow W base (some ⟨g, 0, none⟩) c M) {i : Nat} (it : Item Sp) (hi : i < M.length) (h1 : Lst it.1 it.2.2 W) (h2 : it.2.2 ≠ []) {b off : Nat} (h3 : it.1 = some ⟨b, off, none⟩) (h4 : b ≠ g) :
    LRow (W.setCell ⟨g, i, none⟩ (ival it)) base (some ⟨g, 0, none⟩) c (M.set i it) ∧ W.grownBy (W.setCell ⟨g, i, none⟩ (ival it)) (some g) := by
  obtain ⟨s1, s2⟩ := h.row.stored i (ival it)
  have hl : (M.set i it).length = M.length := by simp
  have hob : Value.ownBlock (.slice (some ⟨g, 0, none⟩) M.length c) = some g := rfl
  refine ⟨⟨?_, fun j hj => ?_, fun e => ?_⟩, s2⟩
  · rw [hl]
    have e : icells (M.set i it) = (icells M).set i (ival it) := by unfold icells; rw [List.map_set]
    rw [e]; exact s1
  · rw [hl]
    rcases List.mem_or_eq_of_mem_set hj with hj | rfl
    · obtain ⟨a1, a2, b', off', a3, a4⟩ := h.it j hj
      exact ⟨a1.grown s2 a3 (by rw [← hob]; exact a4), a2, b', off', a3, a4⟩
    · exact ⟨h1.grown s2 h3 (fun e => h4 (by injection e)), h2, b, off, h3, fun e => h4 (by rw [hob] at e; injection e)⟩
  · have h0 : (M.set i it).length = 0 := by rw [e]; rfl
    rw [hl] at h0
    omega

/-- what a place in a known list is -/
theorem Lst.head {A : Option Addr} {l : List Sp} {W : World} (h : Lst A l W) (h0 : l ≠ []) {b off : Nat} (hA : A = some ⟨b, off, none⟩) : (0 : Int) < l.length ∧ (l.length : Int) < 137438953472 ∧ W.cell? ⟨b, off, none⟩ = some (.int .i64 (keyS l)) := by
  have hl := h.len
  cases l with
  | nil => exact absurd rfl h0
  | cons p l =>
    obtain ⟨b2, off2, q, e2, eq2, hc, _⟩ := h.sp.at_ (j := 0) (by simp)
    rw [hA] at e2
    injection e2 with e2
    injection e2 with e3 e4 e5
    subst e3; subst e4
    simp at eq2
    subst eq2
    refine ⟨by have : 0 < (p :: l).length := by simp
               omega, by omega, ?_⟩
    show W.cell? ⟨b, off, none⟩ = some (.int .i64 p.1)
    simpa using hc
theorem hole_set {α : Type} (M : List α) (h x : α) {j : Nat} (hj : j ≤ M.length) : (M.take j ++ [h] ++ M.drop j).set j x = M.take j ++ [x] ++ M.drop j := by
  have e : (M.take j).length = j := by simp; omega
  rw [List.append_assoc, List.append_assoc, List.set_append_right _ _ (by omega), e, Nat.sub_self]; rfl
theorem hole_down {α : Type} (M : List α) {j : Nat} {y : α} (hy : M[j]? = some y) : M.take (j + 1) ++ [y] ++ M.drop (j + 1) = M.take j ++ [y] ++ M.drop j := by
  rw [take_snoc? hy, drop_cons? hy]; simp
theorem hole_at {α : Type} (M : List α) (h : α) {j p : Nat} (hj : j ≤ M.length) (hp : p < j) : (M.take j ++ [h] ++ M.drop j)[p]? = M[p]? := by
  rw [List.append_assoc, List.getElem?_append_left (by simp; omega), List.getElem?_take_of_lt hp]
theorem hole_len {α : Type} (M : List α) (h : α) {j : Nat} (hj : j ≤ M.length) : (M.take j ++ [h] ++ M.drop j).length = M.length + 1 := by simp; omega
theorem bodies_hole (M : List (Item Sp)) (x : Item Sp) (j : Nat) : bodies (M.take j ++ [x] ++ M.drop j) = (bodies M).take j ++ [x.2.2] ++ (bodies M).drop j := by
  rw [bodies_append, bodies_append]; unfold bodies; simp [List.map_take, List.map_drop]

/-- an element more, brought to its place; K: what comes behind -/
def RowIn (w : World) (M : List (Item Sp)) (m : List Sp) (w' : World) (v : Value) : Prop := ∃ M' A c, v = .slice A M'.length c ∧ M'.length = M.length + 1 ∧ LRow w' w.heap.size A c M' ∧ Below w.heap.size w w' ∧ (∀ P, StabRel P (bodies M) → StabRel (P ++ [m]) (bodies M'))

section
variable {w0 w : World} {F : World → Prop} {A B : Option Addr} {L : List (Item Sp)} {s : List Sp}
set_option maxRecDepth 100000 in
set_option maxHeartbeats 32000000 in
theorem rRefine_st (hK : Hid (St w0 w F)) (hb : ∀ W, F W → LL A L W) (hs : ∀ W, F W → Lst B s W) (hn : L.length ≤ 500) (hsl : s.length < 1048576) (hbl : ∀ b ∈ bodies L, b.length < 1048576) (c d : Nat) :
    Calls Try.prog 44 #[.slice A L.length c, .slice B s.length d] w (fun e w' => ∃ A' c' O, e = .returned (.slice A' O.length c') ∧ Hid (StabRel (parts s [] (bodies L)) (bodies O)) ∧ O.length ≤ 1000 ∧ Hid (St w0 w' (fun W => LL A' O W ∧ F W))) := by
  have HBL := Lib.hid hbl
  clear hbl
  go_enter Try.func44, Try.ntmps44
  go_wp2_with fail
  go_loopw [5, 6] (fun ov kv wr => ∃ (k : Nat) (O : List (Item Sp)) (Ao : Option Addr) (co : Nat), k ≤ L.length ∧ kv = .int .i64 k ∧ ov = .slice Ao O.length co ∧ O.length ≤ 2 * k ∧ Hid (LRow wr w.heap.size Ao co O) ∧ Hid (StabRel (parts s [] ((bodies L).take k)) (bodies O)) ∧ Hid (Below w.heap.size w wr)) (fun _ kv _ => L.length - (intOf kv).toNat)
  case atStart => exact ⟨0, [], none, 0, Nat.zero_le _, rfl, rfl, by simp, Lib.hid (LRow.start _ _), Lib.hid StabRel.nil_, Lib.hid (Below.refl _ _)⟩
  case round =>
  obtain ⟨k, O, Ao, co, hk, rfl, rfl, hol, HO, HP, HB⟩ := hrel
  have HS := Lib.hid (hK.out.step HB.out)
  by_cases hlt : k < L.length
  · obtain ⟨gb, off, ba, bc, b, hA, hx, hc, hwd⟩ := (hb _ HS.out.now).at_ hlt
    have hbk : (bodies L)[k]? = some b := by unfold bodies; rw [List.getElem?_map, hx]; rfl
    have hbl := HBL.out b (List.mem_of_getElem? hbk)
    have HN := Lib.hid (parts_next (s := s) hbk)
    obtain ⟨m1, hm1⟩ : ∃ m, meetL b s = m := ⟨_, rfl⟩
    obtain ⟨m2, hm2⟩ : ∃ m, minusL b s = m := ⟨_, rfl⟩
    have R1 : Hid (Rep m1 (fun x => Mem b x ∧ Mem s x)) := by rw [← hm1]; exact meetL_rep b s
    have R2 : Hid (Rep m2 (fun x => Mem b x ∧ ¬ Mem s x)) := by rw [← hm2]; exact minusL_rep b s
    obtain ⟨P, hP⟩ : ∃ P, parts s [] ((bodies L).take k) = P := ⟨_, rfl⟩
    rw [hm1, hm2, hP] at HN
    rw [hP] at HP
    have HP0 : Hid (StabRel (stp P m1 m2 0) (bodies O)) := HP
    have HC : Hid (∀ W, Below w.heap.size w W → W.cell? ⟨gb, off + k, none⟩ = some (.slice ba b.length bc) ∧ Lst ba b W) := Lib.hid fun W hW => by
      obtain ⟨gb', off', ba', bc', b', hA', hx', hc', hwd'⟩ := (hb _ (hK.out.step hW).now).at_ hlt
      rw [hA] at hA'
      injection hA' with e
      injection e with e1 e2 e3
      subst e1; subst e2
      rw [hx] at hx'
      injection hx' with e
      injection e with e1 e2
      injection e2 with e2 e3
      subst e1; subst e2; subst e3
      exact ⟨hc', hwd'⟩
    subst hA
    clear hx hwd hbk hm1 hm2 hP hc HP
    go_wp2_with fail
    go_loopw [5, 7] (fun ov jv wq => ∃ (j : Nat) (M : List (Item Sp)) (Am : Option Addr) (cm : Nat), j ≤ 2 ∧ jv = .int .i64 j ∧ ov = .slice Am M.length cm ∧ M.length ≤ 2 * k + j ∧ Hid (LRow wq w.heap.size Am cm M) ∧ Hid (StabRel (stp P m1 m2 j) (bodies M)) ∧ Hid (Below w.heap.size w wq)) (fun _ jv _ => 2 - (intOf jv).toNat)
    case atStart => exact ⟨0, O, Ao, co, by omega, rfl, rfl, by omega, HO, HP0, HB⟩
    case round =>
    obtain ⟨j, M, Am, cm, hj, rfl, rfl, hml, HM, HPM, HBM⟩ := hrel
    have hj3 : j = 0 ∨ j = 1 ∨ j = 2 := by omega
    have HGS : Hid (∀ g, Value.ownBlock (.slice Am M.length cm) = some g → g < wr.heap.size) := Lib.hid fun g e => (HM.out.row.lt g e).2
    have HK1 := Lib.hid ((hK.out.step HBM.out).add (Below.refl _ _) (G := fun W => (LRow W w.heap.size Am cm M ∧ Below wr.heap.size wr W) ∧ Below w.heap.size w W) (fun W hW => ⟨⟨HM.out.below hW, hW⟩, below_to HBM.out hW⟩))
    obtain ⟨hc0, _⟩ := HC.out wr HBM.out
    rcases hj3 with rfl | rfl | rfl
    · go_wp2_with fail
      refine (rMeet_stB HK1 (fun _ h => (HC.out _ h.1.2).2) (fun _ h => hs _ h.2) hbl hsl _ _ R1).mono ?_
      rintro e w1 ⟨X1, c1, rfl, hX1, HK2⟩
      by_cases hm : m1 = []
      · subst hm
        obtain ⟨hl1, ⟨⟨hrow, _⟩, hbw⟩, _⟩ := HK2.out.now
        have HM2 := Lib.hid hrow
        have HB2 := Lib.hid hbw
        have HPN : Hid (StabRel (stp P [] m2 1) (bodies M)) := HPM
        clear hl1 hrow hbw hc0
        go_wp2_with fail
        exact ⟨⟨1, M, Am, cm, by omega, by go_num, rfl, by omega, HM2, HPN, HB2⟩, by simp [intOf]⟩
      · obtain ⟨hlx, ⟨⟨hrow, hbwr⟩, hbw⟩, _⟩ := HK2.out.now
        have hX := hX1
        clear hbwr
        obtain ⟨gx, hgx, hge⟩ := hX.resolve_left hm
        subst hgx
        have HLX := Lib.hid hlx
        have HROW := Lib.hid hrow
        have HBW := Lib.hid hbw
        have HNX : Hid (some gx ≠ Value.ownBlock (.slice Am M.length cm)) := Lib.hid fun e => by have := HGS.out gx e.symm; omega
        have HMM := Lib.hid hm
        clear hlx hrow hbw hm hc0 hge
        have hpos : ((m1.length : Int) == 0) = false := by rw [beq_eq_false_iff_ne]; have := List.length_pos_iff.2 HMM.out; omega
        go_wp2_with (at_builtin; go_must (refine wpList_pushL rfl _ _ rfl HROW.out.row rfl (.slice (some ⟨gx, 0, none⟩) m1.length c1) rfl (by first | rfl | (simp; rfl) | simp) (by omega) HBW.out.size ?_); intro A5 c5 w5 HO5 HG5 HAT5)
        have HM5 := Lib.hid (HROW.out.pushed (cx := c1) HLX.out HMM.out HNX.out (by rw [icells_append]; exact HO5.out) HG5.out HAT5.out)
        have HB5 := Lib.hid (HROW.out.bel (n := 0) HBW.out HG5.out HBW.out.size)
        obtain ⟨g5, cap5, hv5, hg5a, hg5b⟩ := HM5.out.row.form (by simp)
        obtain ⟨rfl, rfl⟩ : A5 = some ⟨g5, 0, none⟩ ∧ c5 = cap5 := by injection hv5 with h1 h2 h3; exact ⟨h1, h3⟩
        obtain ⟨hl5, _, b5, off5, he5, hn5⟩ := HM5.out.it (some ⟨gx, 0, none⟩, c1, m1) (by simp)
        injection he5 with he5
        injection he5 with he5 he6 he7
        subst he5; subst he6
        have hgg : gx ≠ g5 := fun e => hn5 (by subst e; rfl)
        have HL5 := Lib.hid hl5
        clear hv5 hn5 hl5 HO5 HG5 HAT5
        have HM5' : Hid (LRow w5 w.heap.size (some ⟨g5, 0, none⟩) c5 (M.take M.length ++ [(some ⟨gx, 0, none⟩, c1, m1)] ++ M.drop M.length)) := by rw [List.take_length, List.drop_length, List.append_nil]; exact HM5
        go_wp2_with fail
        go_loopw [9] (fun av wq => ∃ (q : Nat) (h : Item Sp), q ≤ M.length ∧ av = .int .i64 q ∧ Hid (LRow wq w.heap.size (some ⟨g5, 0, none⟩) c5 (M.take q ++ [h] ++ M.drop q)) ∧ Hid (∀ p y, q ≤ p → (bodies M)[p]? = some y → keyS m1 < keyS y) ∧ Hid (Lst (some ⟨gx, 0, none⟩) m1 wq) ∧ Hid (Below w.heap.size w wq)) (fun av _ => (intOf av).toNat)
        case atStart => exact ⟨M.length, _, Nat.le_refl _, rfl, HM5', Lib.hid (fun p y h1 h2 => by have := (List.getElem?_eq_some_iff.1 h2).1; rw [bodies_length] at this; omega), HL5, HB5⟩
        case round =>
        obtain ⟨q0, h0, hq, rfl, HH, HA, HLQ, HBQ⟩ := hrel
        obtain ⟨hx1, hx2, hx3⟩ := HLQ.out.head HMM.out rfl
        have hlen0 := hole_len M h0 hq
        have HST := fun (w6 : World) (hw6 : Below wr.heap.size wr w6) => (HH.out.below hw6).store (i := q0) (some ⟨gx, 0, none⟩, c1, m1) (by rw [hlen0]; omega) (HLQ.out.below hw6) HMM.out rfl hgg
        have HSTO := Lib.hid HST
        clear HST
        obtain ⟨u0, hu0⟩ : ∃ u, (icells (M.take q0 ++ [h0] ++ M.drop q0))[q0]? = some u := ⟨_, List.getElem?_eq_getElem (by rw [icells_length, hlen0]; omega)⟩
        have hcq := (HH.out.row.cellAt q0 (by rw [hlen0]; omega)).trans hu0
        have hfq := HH.out.row.frozenAt q0
        by_cases hq0 : q0 = 0
        · subst hq0
          have HLE : Hid (∀ p y, p + 1 = 0 → (bodies M)[p]? = some y → keyS y ≤ keyS m1) := Lib.hid fun p y h1 _ => by omega
          go_wp2_with (go_quiet (fail))
          have hfin := HSTO.out (wr.drewN nq) (below_drewN (Below.refl _ _) nq)
          rw [hole_set M h0 _ hq] at hfin
          have hl9 := hole_len M (some ⟨gx, 0, none⟩, c1, m1) hq
          have HPN : Hid (StabRel (stp P m1 m2 1) (bodies (M.take 0 ++ [(some ⟨gx, 0, none⟩, c1, m1)] ++ M.drop 0))) := by
            unfold Hid
            rw [bodies_hole, show stp P m1 m2 1 = stp P m1 m2 0 ++ [m1] from addL_cons HMM.out]
            exact HPM.out.add (by rw [bodies_length]; exact hq) HA.out HLE.out
          exact ⟨⟨1, _, _, c5, by omega, by go_num, by rw [hl9], by rw [hl9]; omega, Lib.hid hfin.1, HPN, Lib.hid ((below_drewN HBQ.out nq).setCell (p := ⟨g5, 0, none⟩) (by simpa using hg5a) _)⟩, by simp [intOf]⟩
        · obtain ⟨q, rfl⟩ : ∃ q, q0 = q + 1 := ⟨q0 - 1, by omega⟩
          have hMq : M[q]? = some (M[q]'(by omega)) := List.getElem?_eq_getElem _
          obtain ⟨y, hy⟩ : ∃ y, M[q]'(by omega) = y := ⟨_, rfl⟩
          rw [hy] at hMq
          have hyb : (bodies M)[q]? = some y.2.2 := by unfold bodies; rw [List.getElem?_map, hMq]; rfl
          have hyin : y ∈ M.take (q + 1) ++ [h0] ++ M.drop (q + 1) := by rw [take_snoc? hMq]; simp
          obtain ⟨hly, hyn, by_, offy, hye, hyne⟩ := HH.out.it y hyin
          obtain ⟨ya, yc, yl⟩ := y
          simp only at hly hyn hye hyne hyb
          subst hye
          obtain ⟨hy1, hy2, hy3⟩ := hly.head hyn rfl
          have hyg : by_ ≠ g5 := fun e => hyne (by subst e; rfl)
          have hcy : wr.cell? ⟨g5, q, none⟩ = some (.slice (some ⟨by_, offy, none⟩) yl.length yc) := by
            rw [HH.out.row.cellAt q (by rw [hlen0]; omega)]
            unfold icells
            rw [List.getElem?_map, hole_at M h0 hq (by omega), hMq]; rfl
          have HYB := Lib.hid hyb
          have HMQ := Lib.hid hMq
          have HLY := Lib.hid hly
          have HYN := Lib.hid hyn
          clear hy hMq hyb hyin hly hyn hyne
          by_cases hk : keyS m1 < keyS yl
          · have HSH := Lib.hid (fun (w6 : World) (hw6 : Below wr.heap.size wr w6) => (HH.out.below hw6).store (i := q + 1) (some ⟨by_, offy, none⟩, yc, yl) (by rw [hlen0]; omega) (HLY.out.below hw6) HYN.out rfl hyg)
            obtain ⟨kx, hkx⟩ : ∃ k, keyS m1 = k := ⟨_, rfl⟩
            obtain ⟨ky, hky⟩ : ∃ k, keyS yl = k := ⟨_, rfl⟩
            have HKX := Lib.hid hkx
            have HKY := Lib.hid hky
            rw [hkx] at hx3 hk
            rw [hky] at hy3 hk
            clear hkx hky
            go_wp2_with (go_quiet (fail))
            have hfin := HSH.out (wr.drewN nq) (below_drewN (Below.refl _ _) nq)
            rw [hole_set M h0 _ hq, hole_down M HMQ.out] at hfin
            have HA2 : Hid (∀ p z, q ≤ p → (bodies M)[p]? = some z → keyS m1 < keyS z) := Lib.hid fun p z h1 h2 => by
              by_cases e : p = q
              · subst e
                have h3 : yl = z := Option.some.inj (HYB.out.symm.trans h2)
                rw [← h3, HKX.out, HKY.out]; exact hk
              · exact HA.out p z (by omega) h2
            exact ⟨⟨q, _, by omega, by go_num, Lib.hid hfin.1, HA2, Lib.hid ((HLQ.out.below (below_drewN (Below.refl _ _) nq)).grown hfin.2 rfl (fun e => hgg (by injection e))), Lib.hid ((below_drewN HBQ.out nq).setCell (p := ⟨g5, q + 1, none⟩) (by simpa using hg5a) _)⟩, by simp [intOf]⟩
          · have HLE : Hid (∀ p z, p + 1 = q + 1 → (bodies M)[p]? = some z → keyS z ≤ keyS m1) := Lib.hid fun p z h1 h2 => by
              obtain rfl : p = q := by omega
              have h3 : yl = z := Option.some.inj (HYB.out.symm.trans h2)
              rw [← h3]; omega
            obtain ⟨kx, hkx⟩ : ∃ k, keyS m1 = k := ⟨_, rfl⟩
            obtain ⟨ky, hky⟩ : ∃ k, keyS yl = k := ⟨_, rfl⟩
            have hk' : ¬ kx < ky := by rw [← hkx, ← hky]; exact hk
            rw [hkx] at hx3
            rw [hky] at hy3
            clear hkx hky hk
            go_wp2_with (go_quiet (fail))
            have hfin := HSTO.out (wr.drewN nq) (below_drewN (Below.refl _ _) nq)
            rw [hole_set M h0 _ hq] at hfin
            have hl9 := hole_len M (some ⟨gx, 0, none⟩, c1, m1) hq
            have HPN : Hid (StabRel (stp P m1 m2 1) (bodies (M.take (q + 1) ++ [(some ⟨gx, 0, none⟩, c1, m1)] ++ M.drop (q + 1)))) := by
              unfold Hid
              rw [bodies_hole, show stp P m1 m2 1 = stp P m1 m2 0 ++ [m1] from addL_cons HMM.out]
              exact HPM.out.add (by rw [bodies_length]; exact hq) HA.out HLE.out
            exact ⟨⟨1, _, _, c5, by omega, by go_num, by rw [hl9], by rw [hl9]; omega, Lib.hid hfin.1, HPN, Lib.hid ((below_drewN HBQ.out nq).setCell (p := ⟨g5, (q + 1), none⟩) (by simpa using hg5a) _)⟩, by simp [intOf]⟩
    · go_wp2_with fail
      refine (rMeet_stB HK1 (fun _ h => (HC.out _ h.1.2).2) (fun _ h => hs _ h.2) hbl hsl _ _ R1).mono ?_
      rintro e w1 ⟨X1, c1, rfl, hX1, HK2⟩
      have hsz1 : wr.heap.size ≤ w1.heap.size := HK2.out.now.2.1.1.2.size
      clear hc0 hX1
      obtain ⟨hc0, _⟩ := HC.out w1 HK2.out.now.2.1.2
      go_wp2_with fail
      refine (rLess_stB HK2 (fun _ h => (HC.out _ h.2.1.2).2) (fun _ h => hs _ h.2.2) hbl hsl _ _ R2).mono ?_
      rintro e w2 ⟨X2, c2, rfl, hX2, HK3⟩
      by_cases hm : m2 = []
      · subst hm
        obtain ⟨_, _, ⟨⟨hrow, _⟩, hbw⟩, _⟩ := HK3.out.now
        have HM2 := Lib.hid hrow
        have HB2 := Lib.hid hbw
        have HPN : Hid (StabRel (stp P m1 [] 2) (bodies M)) := HPM
        clear hrow hbw hc0
        go_wp2_with fail
        exact ⟨⟨2, M, Am, cm, by omega, by go_num, rfl, by omega, HM2, HPN, HB2⟩, by simp [intOf]⟩
      · obtain ⟨hlx, _, ⟨⟨hrow, hbwr⟩, hbw⟩, _⟩ := HK3.out.now
        have hX := hX2
        clear hbwr
        obtain ⟨gx, hgx, hge⟩ := hX.resolve_left hm
        subst hgx
        have HLX := Lib.hid hlx
        have HROW := Lib.hid hrow
        have HBW := Lib.hid hbw
        have HNX : Hid (some gx ≠ Value.ownBlock (.slice Am M.length cm)) := Lib.hid fun e => by have := HGS.out gx e.symm; omega
        have HMM := Lib.hid hm
        clear hlx hrow hbw hm hc0 hge
        have hpos : ((m2.length : Int) == 0) = false := by rw [beq_eq_false_iff_ne]; have := List.length_pos_iff.2 HMM.out; omega
        go_wp2_with (at_builtin; go_must (refine wpList_pushL rfl _ _ rfl HROW.out.row rfl (.slice (some ⟨gx, 0, none⟩) m2.length c2) rfl (by first | rfl | (simp; rfl) | simp) (by omega) HBW.out.size ?_); intro A5 c5 w5 HO5 HG5 HAT5)
        have HM5 := Lib.hid (HROW.out.pushed (cx := c2) HLX.out HMM.out HNX.out (by rw [icells_append]; exact HO5.out) HG5.out HAT5.out)
        have HB5 := Lib.hid (HROW.out.bel (n := 0) HBW.out HG5.out HBW.out.size)
        obtain ⟨g5, cap5, hv5, hg5a, hg5b⟩ := HM5.out.row.form (by simp)
        obtain ⟨rfl, rfl⟩ : A5 = some ⟨g5, 0, none⟩ ∧ c5 = cap5 := by injection hv5 with h1 h2 h3; exact ⟨h1, h3⟩
        obtain ⟨hl5, _, b5, off5, he5, hn5⟩ := HM5.out.it (some ⟨gx, 0, none⟩, c2, m2) (by simp)
        injection he5 with he5
        injection he5 with he5 he6 he7
        subst he5; subst he6
        have hgg : gx ≠ g5 := fun e => hn5 (by subst e; rfl)
        have HL5 := Lib.hid hl5
        clear hv5 hn5 hl5 HO5 HG5 HAT5
        have HM5' : Hid (LRow w5 w.heap.size (some ⟨g5, 0, none⟩) c5 (M.take M.length ++ [(some ⟨gx, 0, none⟩, c2, m2)] ++ M.drop M.length)) := by rw [List.take_length, List.drop_length, List.append_nil]; exact HM5
        go_wp2_with fail
        go_loopw [9] (fun av wq => ∃ (q : Nat) (h : Item Sp), q ≤ M.length ∧ av = .int .i64 q ∧ Hid (LRow wq w.heap.size (some ⟨g5, 0, none⟩) c5 (M.take q ++ [h] ++ M.drop q)) ∧ Hid (∀ p y, q ≤ p → (bodies M)[p]? = some y → keyS m2 < keyS y) ∧ Hid (Lst (some ⟨gx, 0, none⟩) m2 wq) ∧ Hid (Below w.heap.size w wq)) (fun av _ => (intOf av).toNat)
        case atStart => exact ⟨M.length, _, Nat.le_refl _, rfl, HM5', Lib.hid (fun p y h1 h2 => by have := (List.getElem?_eq_some_iff.1 h2).1; rw [bodies_length] at this; omega), HL5, HB5⟩
        case round =>
        obtain ⟨q0, h0, hq, rfl, HH, HA, HLQ, HBQ⟩ := hrel
        obtain ⟨hx1, hx2, hx3⟩ := HLQ.out.head HMM.out rfl
        have hlen0 := hole_len M h0 hq
        have HST := fun (w6 : World) (hw6 : Below wr.heap.size wr w6) => (HH.out.below hw6).store (i := q0) (some ⟨gx, 0, none⟩, c2, m2) (by rw [hlen0]; omega) (HLQ.out.below hw6) HMM.out rfl hgg
        have HSTO := Lib.hid HST
        clear HST
        obtain ⟨u0, hu0⟩ : ∃ u, (icells (M.take q0 ++ [h0] ++ M.drop q0))[q0]? = some u := ⟨_, List.getElem?_eq_getElem (by rw [icells_length, hlen0]; omega)⟩
        have hcq := (HH.out.row.cellAt q0 (by rw [hlen0]; omega)).trans hu0
        have hfq := HH.out.row.frozenAt q0
        by_cases hq0 : q0 = 0
        · subst hq0
          have HLE : Hid (∀ p y, p + 1 = 0 → (bodies M)[p]? = some y → keyS y ≤ keyS m2) := Lib.hid fun p y h1 _ => by omega
          go_wp2_with (go_quiet (fail))
          have hfin := HSTO.out (wr.drewN nq) (below_drewN (Below.refl _ _) nq)
          rw [hole_set M h0 _ hq] at hfin
          have hl9 := hole_len M (some ⟨gx, 0, none⟩, c2, m2) hq
          have HPN : Hid (StabRel (stp P m1 m2 2) (bodies (M.take 0 ++ [(some ⟨gx, 0, none⟩, c2, m2)] ++ M.drop 0))) := by
            unfold Hid
            rw [bodies_hole, show stp P m1 m2 2 = stp P m1 m2 1 ++ [m2] from addL_cons HMM.out]
            exact HPM.out.add (by rw [bodies_length]; exact hq) HA.out HLE.out
          exact ⟨⟨2, _, _, c5, by omega, by go_num, by rw [hl9], by rw [hl9]; omega, Lib.hid hfin.1, HPN, Lib.hid ((below_drewN HBQ.out nq).setCell (p := ⟨g5, 0, none⟩) (by simpa using hg5a) _)⟩, by simp [intOf]⟩
        · obtain ⟨q, rfl⟩ : ∃ q, q0 = q + 1 := ⟨q0 - 1, by omega⟩
          have hMq : M[q]? = some (M[q]'(by omega)) := List.getElem?_eq_getElem _
          obtain ⟨y, hy⟩ : ∃ y, M[q]'(by omega) = y := ⟨_, rfl⟩
          rw [hy] at hMq
          have hyb : (bodies M)[q]? = some y.2.2 := by unfold bodies; rw [List.getElem?_map, hMq]; rfl
          have hyin : y ∈ M.take (q + 1) ++ [h0] ++ M.drop (q + 1) := by rw [take_snoc? hMq]; simp
          obtain ⟨hly, hyn, by_, offy, hye, hyne⟩ := HH.out.it y hyin
          obtain ⟨ya, yc, yl⟩ := y
          simp only at hly hyn hye hyne hyb
          subst hye
          obtain ⟨hy1, hy2, hy3⟩ := hly.head hyn rfl
          have hyg : by_ ≠ g5 := fun e => hyne (by subst e; rfl)
          have hcy : wr.cell? ⟨g5, q, none⟩ = some (.slice (some ⟨by_, offy, none⟩) yl.length yc) := by
            rw [HH.out.row.cellAt q (by rw [hlen0]; omega)]
            unfold icells
            rw [List.getElem?_map, hole_at M h0 hq (by omega), hMq]; rfl
          have HYB := Lib.hid hyb
          have HMQ := Lib.hid hMq
          have HLY := Lib.hid hly
          have HYN := Lib.hid hyn
          clear hy hMq hyb hyin hly hyn hyne
          by_cases hk : keyS m2 < keyS yl
          · have HSH := Lib.hid (fun (w6 : World) (hw6 : Below wr.heap.size wr w6) => (HH.out.below hw6).store (i := q + 1) (some ⟨by_, offy, none⟩, yc, yl) (by rw [hlen0]; omega) (HLY.out.below hw6) HYN.out rfl hyg)
            obtain ⟨kx, hkx⟩ : ∃ k, keyS m2 = k := ⟨_, rfl⟩
            obtain ⟨ky, hky⟩ : ∃ k, keyS yl = k := ⟨_, rfl⟩
            have HKX := Lib.hid hkx
            have HKY := Lib.hid hky
            rw [hkx] at hx3 hk
            rw [hky] at hy3 hk
            clear hkx hky
            go_wp2_with (go_quiet (fail))
            have hfin := HSH.out (wr.drewN nq) (below_drewN (Below.refl _ _) nq)
            rw [hole_set M h0 _ hq, hole_down M HMQ.out] at hfin
            have HA2 : Hid (∀ p z, q ≤ p → (bodies M)[p]? = some z → keyS m2 < keyS z) := Lib.hid fun p z h1 h2 => by
              by_cases e : p = q
              · subst e
                have h3 : yl = z := Option.some.inj (HYB.out.symm.trans h2)
                rw [← h3, HKX.out, HKY.out]; exact hk
              · exact HA.out p z (by omega) h2
            exact ⟨⟨q, _, by omega, by go_num, Lib.hid hfin.1, HA2, Lib.hid ((HLQ.out.below (below_drewN (Below.refl _ _) nq)).grown hfin.2 rfl (fun e => hgg (by injection e))), Lib.hid ((below_drewN HBQ.out nq).setCell (p := ⟨g5, q + 1, none⟩) (by simpa using hg5a) _)⟩, by simp [intOf]⟩
          · have HLE : Hid (∀ p z, p + 1 = q + 1 → (bodies M)[p]? = some z → keyS z ≤ keyS m2) := Lib.hid fun p z h1 h2 => by
              obtain rfl : p = q := by omega
              have h3 : yl = z := Option.some.inj (HYB.out.symm.trans h2)
              rw [← h3]; omega
            obtain ⟨kx, hkx⟩ : ∃ k, keyS m2 = k := ⟨_, rfl⟩
            obtain ⟨ky, hky⟩ : ∃ k, keyS yl = k := ⟨_, rfl⟩
            have hk' : ¬ kx < ky := by rw [← hkx, ← hky]; exact hk
            rw [hkx] at hx3
            rw [hky] at hy3
            clear hkx hky hk
            go_wp2_with (go_quiet (fail))
            have hfin := HSTO.out (wr.drewN nq) (below_drewN (Below.refl _ _) nq)
            rw [hole_set M h0 _ hq] at hfin
            have hl9 := hole_len M (some ⟨gx, 0, none⟩, c2, m2) hq
            have HPN : Hid (StabRel (stp P m1 m2 2) (bodies (M.take (q + 1) ++ [(some ⟨gx, 0, none⟩, c2, m2)] ++ M.drop (q + 1)))) := by
              unfold Hid
              rw [bodies_hole, show stp P m1 m2 2 = stp P m1 m2 1 ++ [m2] from addL_cons HMM.out]
              exact HPM.out.add (by rw [bodies_length]; exact hq) HA.out HLE.out
            exact ⟨⟨2, _, _, c5, by omega, by go_num, by rw [hl9], by rw [hl9]; omega, Lib.hid hfin.1, HPN, Lib.hid ((below_drewN HBQ.out nq).setCell (p := ⟨g5, (q + 1), none⟩) (by simpa using hg5a) _)⟩, by simp [intOf]⟩
    · have HPK : Hid (StabRel (parts s [] ((bodies L).take (k + 1))) (bodies M)) := by rw [HN.out]; exact HPM
      clear hc0
      go_wp2_with fail
      exact ⟨⟨k + 1, M, Am, cm, by omega, by go_num, rfl, by omega, HM, HPK, HBM⟩, by simp [intOf]; omega⟩
  · obtain rfl : k = L.length := by omega
    have hd : decide (L.length < L.length) = false := by simp
    have HPA : Hid (StabRel (parts s [] (bodies L)) (bodies O)) := by
      have := HP.out
      rw [← bodies_length (L := L), List.take_length] at this
      exact this
    go_wp2_with fail
    go_ret
    exact ⟨Ao, co, O, rfl, HPA, by omega, Lib.hid (HS.out.add (Below.refl _ _) (fun W hW => HO.out.ll.below hW))⟩
end
end Go.Proofs.Ytdaagdohhnhbdaa
