/- Rows of sets that are built up and sorted: what parting by one more set makes, the row on its way, its sorting. Condition: none. -/
import Derived.Test.YtdaagdohhnhbdaaStabSort
import Derived.Test.YtdaagdohhnhbdaaItems
import Derived.Test.YtdaagdohhnhbdaaLift
namespace Go.Proofs.Ytdaagdohhnhbdaa
open Go.RowKit
set_option linter.unusedVariables false

noncomputable def meetL (a b : List Sp) : List Sp := Classical.choose (rep_meet a b)
noncomputable def minusL (a b : List Sp) : List Sp := Classical.choose (rep_minus a b)
theorem meetL_rep (a b : List Sp) : Hid (Rep (meetL a b) (fun x => Mem a x ∧ Mem b x)) := Classical.choose_spec (rep_meet a b)
theorem minusL_rep (a b : List Sp) : Hid (Rep (minusL a b) (fun x => Mem a x ∧ ¬ Mem b x)) := Classical.choose_spec (rep_minus a b)
/-- a list behind another, if it isn't empty -/
def addL (P : List (List Sp)) (x : List Sp) : List (List Sp) := if x = [] then P else P ++ [x]
/-- what some lists become, parted by a set -/
noncomputable def parts (s : List Sp) : List (List Sp) → List (List Sp) → List (List Sp)
  | P, [] => P
  | P, b :: L => parts s (addL (addL P (meetL b s)) (minusL b s)) L
theorem addL_len (P : List (List Sp)) (x : List Sp) : P.length ≤ (addL P x).length := by unfold addL; split <;> simp
theorem addL_len2 (P : List (List Sp)) (x : List Sp) : (addL P x).length ≤ P.length + 1 := by unfold addL; split <;> simp
theorem parts_len (s : List Sp) (L P : List (List Sp)) : P.length ≤ (parts s P L).length := by
  induction L generalizing P with
  | nil => exact Nat.le_refl _
  | cons b L ih => exact Nat.le_trans (Nat.le_trans (addL_len _ _) (addL_len _ _)) (ih _)
theorem parts_len2 (s : List Sp) (L P : List (List Sp)) : (parts s P L).length ≤ P.length + 2 * L.length := by
  induction L generalizing P with
  | nil => simp [parts]
  | cons b L ih =>
    have h1 := ih (addL (addL P (meetL b s)) (minusL b s))
    have h2 := addL_len2 (addL P (meetL b s)) (minusL b s)
    have h3 := addL_len2 P (meetL b s)
    simp only [parts, List.length_cons] at *
    omega
theorem parts_append (s : List Sp) (L M P : List (List Sp)) : parts s P (L ++ M) = parts s (parts s P L) M := by
  induction L generalizing P with
  | nil => rfl
  | cons b L ih => exact ih _
theorem parts_next {s : List Sp} {L : List (List Sp)} {k : Nat} {b : List Sp} (h : L[k]? = some b) : parts s [] (L.take (k + 1)) = addL (addL (parts s [] (L.take k)) (meetL b s)) (minusL b s) := by
  rw [take_snoc? h, parts_append]; rfl
def keyS (l : List Sp) : Int := (l.headD (0, 0)).1
/-- the same lists by their least numbers, those that came first ahead -/
def StabRel (P Q : List (List Sp)) : Prop := ∃ ix : List Nat, ix.Perm (List.range P.length) ∧ Q = ix.map (fun i => P[i]!) ∧ ix.Pairwise (fun i j => keyS P[i]! < keyS P[j]! ∨ (keyS P[i]! = keyS P[j]! ∧ i < j))
theorem perm_sorted_unique {r : Nat → Nat → Prop} (ht : ∀ i j, r i j → ¬ r j i) {a b : List Nat} (hp : a.Perm b) (h1 : a.Pairwise r) (h2 : b.Pairwise r) : a = b := by
  induction a generalizing b with
  | nil => exact (List.perm_nil.1 hp.symm).symm
  | cons x a ih =>
    cases b with
    | nil => exact absurd hp.length_eq (by simp)
    | cons y b =>
      have e : x = y := by
        have m1 : x ∈ y :: b := hp.mem_iff.1 (by simp)
        have m2 : y ∈ x :: a := hp.mem_iff.2 (by simp)
        rcases List.mem_cons.1 m1 with e | m1
        · exact e
        · rcases List.mem_cons.1 m2 with e | m2
          · exact e.symm
          · exact absurd ((List.pairwise_cons.1 h1).1 y m2) (ht _ _ ((List.pairwise_cons.1 h2).1 x m1))
      subst e
      rw [ih (List.perm_cons x |>.1 hp) (List.pairwise_cons.1 h1).2 (List.pairwise_cons.1 h2).2]
theorem StabRel.unique {P Q R : List (List Sp)} (h : StabRel P Q) (k : StabRel P R) : Q = R := by
  obtain ⟨a, a1, rfl, a3⟩ := h
  obtain ⟨b, b1, rfl, b3⟩ := k
  rw [perm_sorted_unique (fun i j h1 h2 => by omega) (a1.trans b1.symm) a3 b3]
theorem StabRel.mem {P Q : List (List Sp)} (h : StabRel P Q) (x : List Sp) : x ∈ Q ↔ x ∈ P := by
  obtain ⟨a, a1, rfl, a3⟩ := h
  rw [List.mem_map]
  constructor
  · rintro ⟨i, hi, rfl⟩
    have hi' := List.mem_range.1 (a1.mem_iff.1 hi)
    rw [getElem!_pos P i hi']; exact List.getElem_mem _
  · intro hx
    obtain ⟨i, hi, rfl⟩ := List.getElem_of_mem hx
    exact ⟨i, a1.mem_iff.2 (List.mem_range.2 hi), getElem!_pos P i hi⟩
theorem StabRel.len {P Q : List (List Sp)} (h : StabRel P Q) : Q.length = P.length := by
  obtain ⟨a, a1, rfl, a3⟩ := h
  rw [List.length_map, a1.length_eq, List.length_range]
theorem StabRel.nil_ : StabRel [] [] := ⟨[], List.Perm.refl _, rfl, List.Pairwise.nil⟩

/-! the row -/
structure LRow (W : World) (base : Nat) (A : Option Addr) (c : Nat) (O : List (Item Sp)) : Prop where
  row : W.ownsRow base 24 1 (.slice A O.length c) O.length (icells O)
  it : ∀ i ∈ O, Lst i.1 i.2.2 W ∧ i.2.2 ≠ [] ∧ ∃ b off, i.1 = some ⟨b, off, none⟩ ∧ some b ≠ Value.ownBlock (.slice A O.length c)
  nil : O = [] → A = none ∧ c = 0
theorem LRow.start (W : World) (base : Nat) : LRow W base none 0 [] := ⟨World.ownsRow_nil _ _ _ _, fun i hi => (by cases hi), fun _ => ⟨rfl, rfl⟩⟩
theorem own_below {W w : World} {base : Nat} {e : TypeId} {size : Nat} {v : Value} {n : Nat} {xs : List Value} (h : W.ownsRow base e size v n xs) (hb : Below W.heap.size W w) : w.ownsRow base e size v n xs := by
  refine ⟨h.1, ?_⟩
  rcases h.2 with h | ⟨g, cap, cur, e, hg1, hg2, hg3⟩
  · exact .inl h
  · exact .inr ⟨g, cap, cur, e, hg1, (hb.block g (Array.getElem?_eq_some_iff.1 hg2).1).trans hg2, hg3⟩
theorem LRow.below {W w : World} {base : Nat} {A : Option Addr} {c : Nat} {O : List (Item Sp)} (h : LRow W base A c O) (hb : Below W.heap.size W w) : LRow w base A c O :=
  ⟨own_below h.row hb, fun i hi => ⟨(h.it i hi).1.below hb, (h.it i hi).2⟩, h.nil⟩
theorem Lst.grown {A : Option Addr} {l : List Sp} {w w' : World} {r : Option Nat} (h : Lst A l w) (hg : w.grownBy w' r) {b off : Nat} (hA : A = some ⟨b, off, none⟩) (hb : some b ≠ r) : Lst A l w' := by
  refine ⟨⟨h.sp.1, fun hn => ?_⟩, h.wd, h.len⟩
  obtain ⟨b', off', e, hc⟩ := h.sp.2 hn
  rw [hA] at e
  injection e with e
  injection e with e1 e2 e3
  subst e1; subst e2
  exact ⟨b, off, hA, fun j u hu => hg.cell (hc j u hu) hb⟩
theorem infoHd : (Try.prog.info? 24).map (fun i => (i.zero, i.size, i.bytes)) = some (some (.slice none 0 0), 1, 24) := by kernel_rfl
theorem LRow.pushed {W W' : World} {base : Nat} {A A' : Option Addr} {c c' : Nat} {O : List (Item Sp)} {x : List Sp} {B : Nat} {off cx : Nat} {ob : Obj} (h : LRow W base A c O) (hx : Lst (some ⟨B, off, none⟩) x W) (hx0 : x ≠ []) (hB : some B ≠ Value.ownBlock (.slice A O.length c))
    (ho : W'.ownsRow base 24 1 (.slice A' (O.length + 1) c') (O.length + 1) (icells (O ++ [(some ⟨B, off, none⟩, cx, x)]))) (hg : (W.alloc ob).grownBy W' (Value.ownBlock (.slice A O.length c)))
    (hat : Value.ownBlock (.slice A' (O.length + 1) c') = Value.ownBlock (.slice A O.length c) ∨ Value.ownBlock (.slice A' (O.length + 1) c') = some (W.heap.size + 1)) :
    LRow W' base A' c' (O ++ [(some ⟨B, off, none⟩, cx, x)]) := by
  have hl : (O ++ [((some ⟨B, off, none⟩, cx, x) : Item Sp)]).length = O.length + 1 := by simp
  have key : ∀ b off' y, Lst (some ⟨b, off', none⟩) y W → y ≠ [] → some b ≠ Value.ownBlock (.slice A O.length c) → Lst (some ⟨b, off', none⟩) y W' ∧ some b ≠ Value.ownBlock (.slice A' (O.length + 1) c') := by
    intro b off' y hy hy0 hb
    obtain ⟨b2, off2, _, e2, _, hc, _⟩ := hy.sp.at_ (j := 0) (List.length_pos_iff.2 hy0)
    injection e2 with e2
    injection e2 with e3 e4 e5
    subst e3; subst e4
    have hlt := lt_of_cell hc
    have hy2 : Lst (some ⟨b, off', none⟩) y (W.alloc ob) := hy.below ((Below.refl _ _).alloc (Nat.le_refl _) _)
    refine ⟨hy2.grown hg rfl hb, ?_⟩
    rcases hat with e | e
    · rw [e]; exact hb
    · rw [e]; intro e'; injection e' with e'; omega
  refine ⟨by rw [hl]; exact ho, fun i hi => ?_, fun e => by simp at e⟩
  rw [hl]
  rcases List.mem_append.1 hi with hi | hi
  · obtain ⟨h1, h2, b, off', h3, h4⟩ := h.it i hi
    rw [h3] at h1 ⊢
    obtain ⟨k1, k2⟩ := key b off' _ h1 h2 h4
    exact ⟨k1, h2, b, off', rfl, k2⟩
  · simp at hi; subst hi
    obtain ⟨k1, k2⟩ := key B off x hx hx0 hB
    exact ⟨k1, hx0, B, off, rfl, k2⟩
theorem LRow.bel {W W' w : World} {base : Nat} {A : Option Addr} {c n : Nat} {O : List (Item Sp)} {ob : Obj} (h : LRow W base A c O) (hb : Below base w W) (hg : (W.alloc ob).grownBy W' (Value.ownBlock (.slice A O.length c))) (hB : base ≤ W.heap.size) : Below base w W' :=
  below_pushed hb h.row (Nat.le_refl _) hB hg

/-! sorting it -/
def toKV (i : Item Sp) (k : Nat) : KV := { b := ((i.1.map Addr.block).getD 0), off := ((i.1.map Addr.off).getD 0), n := i.2.2.length, c := i.2.1, key := keyS i.2.2, ix := k }
def kvs (O : List (Item Sp)) : List KV := O.zipIdx.map fun p => toKV p.1 p.2
theorem kvs_len (O : List (Item Sp)) : (kvs O).length = O.length := by simp [kvs]
theorem kvs_at (O : List (Item Sp)) (k : Nat) : (kvs O)[k]? = (O[k]?).map fun i => toKV i k := by
  unfold kvs
  rw [List.getElem?_map, List.getElem?_zipIdx]
  cases O[k]? <;> simp
theorem kvs_ix (O : List (Item Sp)) (n : Nat) : IxB (kvs O) 0 n := by
  intro i j x y h1 h2 h3 e1 e2
  rw [kvs_at] at e1 e2
  obtain ⟨u, _, rfl⟩ := Option.map_eq_some_iff.1 e1
  obtain ⟨v, _, rfl⟩ := Option.map_eq_some_iff.1 e2
  exact h2
theorem kvs_val {O : List (Item Sp)} (h : ∀ i ∈ O, ∃ b off, i.1 = some ⟨b, off, none⟩) : (kvs O).map KV.val = icells O := by
  apply List.ext_getElem?
  intro k
  rw [List.getElem?_map, kvs_at]
  unfold icells
  rw [List.getElem?_map]
  rcases ho : O[k]? with _ | i
  · rfl
  · obtain ⟨b, off, e⟩ := h i (List.mem_of_getElem? ho)
    obtain ⟨ia, ic, il⟩ := i
    simp only at e
    subst e
    rfl
theorem LRow.kst {W : World} {base g c : Nat} {O : List (Item Sp)} (h : LRow W base (some ⟨g, 0, none⟩) c O) : KSt W base g c (kvs O) := by
  have hv := kvs_val (O := O) fun i hi => by obtain ⟨_, _, b, off, e, _⟩ := h.it i hi; exact ⟨b, off, e⟩
  refine ⟨by rw [hv, kvs_len]; exact h.row, fun x hx => ?_⟩
  obtain ⟨k, hk⟩ := List.getElem?_of_mem hx
  rw [kvs_at] at hk
  obtain ⟨i, hi, rfl⟩ := Option.map_eq_some_iff.1 hk
  obtain ⟨h1, h2, b, off, h3, h4⟩ := h.it i (List.mem_of_getElem? hi)
  obtain ⟨ia, ic, il⟩ := i
  simp only at h1 h2 h3
  subst h3
  cases il with
  | nil => exact absurd rfl h2
  | cons p l =>
    obtain ⟨b2, off2, q, e2, eq2, hc, _⟩ := h1.sp.at_ (j := 0) (by simp)
    injection e2 with e2
    injection e2 with e3 e4 e5
    subst e3; subst e4
    simp at eq2
    subst eq2
    have hl := h1.len
    refine ⟨fun e => h4 (by rw [show (toKV (some ⟨b, off, none⟩, ic, p :: l) k).b = b from rfl] at e; subst e; rfl), by show 1 ≤ (p :: l).length; simp, by show (p :: l).length < _; omega, ?_⟩
    show W.cell? ⟨b, off, none⟩ = some (.int .i64 p.1)
    simpa using hc
/-- the row behind its sorting -/
theorem LRow.sorted {W W' : World} {base g c : Nat} {O : List (Item Sp)} {ys : List KV} (h : LRow W base (some ⟨g, 0, none⟩) c O) (hp : ys.Perm (kvs O)) (hs : SrtB ys 0 ys.length) (hk : KSt W' base g c ys) (hg : W.grownBy W' (some g)) :
    ∃ O', O'.length = O.length ∧ LRow W' base (some ⟨g, 0, none⟩) c O' ∧ StabRel (bodies O) (bodies O') := by
  have hyl : ys.length = O.length := hp.length_eq.trans (kvs_len O)
  have hin : ∀ y ∈ ys, ∃ i, O[y.ix]? = some i ∧ y = toKV i y.ix := by
    intro y hy
    obtain ⟨k, hk⟩ := List.getElem?_of_mem (hp.mem_iff.1 hy)
    rw [kvs_at] at hk
    obtain ⟨i, hi, rfl⟩ := Option.map_eq_some_iff.1 hk
    exact ⟨i, hi, rfl⟩
  refine ⟨ys.map fun y => (O[y.ix]?).getD (none, 0, []), by simp [hyl], ⟨?_, ?_, ?_⟩, ys.map KV.ix, ?_, ?_, ?_⟩
  · have e : icells (ys.map fun y => (O[y.ix]?).getD (none, 0, [])) = ys.map KV.val := by
      unfold icells
      rw [List.map_map]
      refine List.map_congr_left fun y hy => ?_
      obtain ⟨i, hi, e⟩ := hin y hy
      obtain ⟨_, _, b, off, h3, _⟩ := h.it i (List.mem_of_getElem? hi)
      simp only [Function.comp_apply, hi, Option.getD_some]
      rw [e]
      obtain ⟨ia, ic, il⟩ := i
      simp only at h3
      subst h3
      rfl
    have hr := hk.row
    rw [e, List.length_map]
    exact hr
  · intro i hi
    obtain ⟨y, hy, rfl⟩ := List.mem_map.1 hi
    obtain ⟨i, hi, e⟩ := hin y hy
    simp only [hi, Option.getD_some]
    obtain ⟨h1, h2, b, off, h3, h4⟩ := h.it i (List.mem_of_getElem? hi)
    refine ⟨h1.grown hg h3 (fun e => h4 (by rw [e]; rfl)), h2, b, off, h3, fun e => h4 (by rw [e]; rfl)⟩
  · intro e
    have : O = [] := by
      have := congrArg List.length e
      simp [hyl] at this
      exact this
    have := (h.nil this).1
    cases this
  · have e : (kvs O).map KV.ix = List.range O.length := by
      apply List.ext_getElem?
      intro k
      rw [List.getElem?_map, kvs_at]
      by_cases hk : k < O.length
      · rw [List.getElem?_eq_getElem hk, List.getElem?_range hk]; rfl
      · rw [List.getElem?_eq_none (by omega), List.getElem?_eq_none (by simp; omega)]; rfl
    rw [bodies_length, ← e]
    exact hp.map _
  · unfold bodies
    rw [List.map_map, List.map_map]
    refine List.map_congr_left fun y hy => ?_
    obtain ⟨i, hi, e⟩ := hin y hy
    have hlt := (List.getElem?_eq_some_iff.1 hi).1
    simp only [Function.comp_apply, hi, Option.getD_some]
    rw [getElem!_pos _ _ (by simpa using hlt)]
    simp [(List.getElem?_eq_some_iff.1 hi).2]
  · rw [List.pairwise_map, List.pairwise_iff_getElem]
    intro i j hi hj hij
    have hlt := hs i j _ _ (Nat.zero_le _) hij hj (List.getElem?_eq_getElem hi) (List.getElem?_eq_getElem hj)
    have key : ∀ y ∈ ys, y.key = keyS (bodies O)[y.ix]! := by
      intro y hy
      obtain ⟨i, hi, e⟩ := hin y hy
      have hlt := (List.getElem?_eq_some_iff.1 hi).1
      rw [getElem!_pos _ _ (by rw [bodies_length]; exact hlt)]
      unfold bodies
      rw [List.getElem_map, (List.getElem?_eq_some_iff.1 hi).2]
      rw [e]; rfl
    rw [← key _ (List.getElem_mem hi), ← key _ (List.getElem_mem hj)]
    exact hlt
end Go.Proofs.Ytdaagdohhnhbdaa
