/- A map from values to the symbols that have them, on its way: one symbol more; what a loop's body does to it. No function of the program in sight. Condition: none. Choices sorted by the library: a slice of the call's own holds them in the order of their values. Condition: fewer than 2^40 choices, a slice that is not nil, values from 0 to 2^40. The values of parts said of a walk's state (the first part of Lift03, for seats that lack its other functions). Condition: none. -/
import Derived.Test.YtpmhdjiacgckjaaM12
import Derived.Test.YtpmhdjiacgckjaaM13
import Derived.Test.YtpmhdjiacgckjaaM09
import Derived.Test.YtpmhdjiacgckjaaM07
import Derived.Test.YtpmhdjiacgckjaaM10
import Derived.RangeFuncWrites
import Derived.Test.YtpmhdjiacgckjaaM02
import Derived.Test.YtpmhdjiacgckjaaM05
section
namespace Go.Proofs.Ytpmhdjiacgckjaa
open Go.RowKit Go.Shelf
set_option linter.unusedVariables false
set_option linter.unusedSimpArgs false
def chP (x : Ch) : Value × Value := (.int .i64 x.1, ival x.2)
structure MapC (mb base : Nat) (val : Int → Int) (pre : List Int) (L : List Ch) (W : World) : Prop where
  mp : MapIs Try.prog 3 mb (L.map chP) W
  sets : ∀ x ∈ L, SRow W base x.2.1 x.2.2.1 x.2.2.2
  apart : ∀ x ∈ L, ∀ y ∈ L, x.1 ≠ y.1 → ∀ g, ownA x.2.1 = some g → ownA y.2.1 ≠ some g
  body : ∀ x ∈ L, x.2.2.2 = (pre.filter fun y => val y == x.1).map fun y => (y, y)
  all : ∀ y ∈ pre, ∃ x ∈ L, x.1 = val y
  has : ∀ x ∈ L, ∃ y ∈ pre, val y = x.1
theorem Only.cell {pb : Nat} {w w' : World} (h : Only pb none w w') {p : Addr} {v : Value} (hv : w.cell? p = some v) (hp : p.block ≠ pb) : w'.cell? p = some v :=
  (World.cell?_of_block (h.block _ (World.block_lt_of_cell? w p hv) hp (by simp))).trans hv
theorem Only.frozen {pb : Nat} {w w' : World} (h : Only pb none w w') {p : Addr} {v : Value} (hv : w.cell? p = some v) (hp : p.block ≠ pb) : w'.frozen? p = w.frozen? p :=
  World.frozen?_of_block (h.block _ (World.block_lt_of_cell? w p hv) hp (by simp))
theorem ownFrom_only {β : Type} {pb B : Nat} {w : World} (hB : w.heap.size ≤ B) : OwnFrom B (fun (_ : β) W => Only pb none w W) := fun _ _ _ row hs hg hr =>
  ⟨hg.os.trans hs.os, hg.tape.trans hs.tape, hg.output.trans hs.output, Nat.le_trans hs.size hg.size, fun k hk h1 h2 => (hg.block k (Nat.lt_of_lt_of_le hk hs.size) (fun e => by have := (hr k e.symm).1; omega)).trans (hs.block k hk h1 h2)⟩
theorem MapIs.turn {P : Program} {kt : TypeId} {b : Nat} {M : List (Value × Value)} {W W' : World} {row : Option Nat} (h : MapIs P kt b M W) (hg : W.grownBy W' row) (hr : some b ≠ row) : MapIs P kt b M W' := h.same (hg.block b h.lt hr)
theorem MapC.own {β : Type} (B mb base : Nat) (val : Int → Int) (f : β → List Int) (hB : mb < B) (p : List Ch → Prop) : OwnFrom B (fun s W => ∃ L, MapC mb base val (f s) L W ∧ p L) := by
  rintro s X Y row ⟨L, h, hp⟩ hg hr
  exact ⟨L, ⟨h.mp.turn hg (fun e => by have := (hr mb e.symm).1; omega), fun x hx => own_turn (h.sets x hx) hg (fun r e => (hr r e).2), h.apart, h.body, h.all, h.has⟩, hp⟩
/-- the rows that the map's values hold -/
def OwnM (mb : Nat) (W : World) (k : Nat) : Prop := ∃ es clock, W.heap[mb]? = some (.map es clock) ∧ ∃ e ∈ es.toList, ∃ off n c, e.val = .slice (some ⟨k, off, none⟩) n c
theorem ownM_on {mb B0 : Nat} (h : mb < B0) : OnB B0 (OwnM mb) := fun W W' hW k => by unfold OwnM; rw [hW mb h]
theorem MapC.ownM {mb base : Nat} {val : Int → Int} {pre : List Int} {L : List Ch} {W : World} (h : MapC mb base val pre L W) (k : Nat) : OwnM mb W k ↔ ∃ x ∈ L, ownA x.2.1 = some k := by
  obtain ⟨es, clock, hb, _, _, hm⟩ := h.mp
  constructor
  · rintro ⟨es', cl', hb', e, he, off, n, c, hv⟩
    rw [hb] at hb'
    injection hb' with hb'
    injection hb' with h1 h2
    subst h1
    obtain ⟨x, hx, hxe⟩ := List.mem_map.1 ((hm (mkey e)).2 ⟨e, he, rfl⟩)
    refine ⟨x, hx, ?_⟩
    have h3 : ival x.2 = e.val := congrArg Prod.snd hxe
    rw [hv] at h3
    unfold ival at h3
    injection h3 with h3
    rw [h3]; rfl
  · rintro ⟨x, hx, hA⟩
    obtain ⟨e, he, hk⟩ := (hm (chP x)).1 (List.mem_map.2 ⟨x, hx, rfl⟩)
    have h3 : e.val = ival x.2 := congrArg Prod.snd hk
    rcases hs : x.2.1 with _ | ⟨b, o, q⟩
    · rw [hs] at hA; cases hA
    · rw [hs] at hA
      injection hA with hA
      have hrow := (h.sets x hx).2
      unfold ival at h3
      rw [hs] at h3 hrow
      rcases hrow with ⟨h, _⟩ | ⟨g, cap, cur, h, _⟩
      · cases h
      · injection h with h
        injection h with h
        injection h with h4 h5 h6
        subst h4; subst h5; subst h6
        simp only at hA
        subst hA
        exact ⟨es, clock, hb, e, he, _, _, _, h3⟩
theorem mapPut_ch (L : List Ch) (n : Int) (s : Item Sp) : mapPut (L.map chP) (.int .i64 n) (ival s) = ((n, s) :: L.filter fun x => decide (x.1 ≠ n)).map chP := by
  classical
  unfold mapPut
  rw [List.map_cons]
  congr 1
  rw [List.filter_map]
  congr 1
  refine List.filter_congr fun x _ => ?_
  show decide _ = decide _
  rw [decide_eq_decide]
  show (chP x).1 ≠ _ ↔ _
  unfold chP
  simp
/-- one symbol more: the row found (or none), the span appended, the map written -/
theorem MapC.step {mb base : Nat} {val : Int → Int} {pre : List Int} {L : List Ch} {W W7 W8 W9 : World} {ob : Obj} {A A' : Option Addr} {c c' : Nat} {l : List Sp} {x n : Int} (h : MapC mb base val pre L W) (hx : val x = n)
    (h7 : Below W.heap.size W W7) (hbm : base ≤ W.heap.size) (hmb : mb < base) (hl : (∃ y ∈ L, y = (n, (A, c, l))) ∨ ((∀ y ∈ L, y.1 ≠ n) ∧ A = none ∧ l = []))
    (HO : W8.ownsRow base 52 2 (.slice A' (l.length + 1) c') (l.length + 1) (spanCells l ++ [.int .i64 x, .int .i64 x])) (HG : (W7.alloc ob).grownBy W8 (ownA A)) (HN : Newer (ownA A) (ownA A') (W7.heap.size + 1))
    (hM : MapIs Try.prog 3 mb (mapPut (L.map chP) (.int .i64 n) (ival ((A', c', l ++ [(x, x)]) : Item Sp))) W9) (hG9 : W8.grownBy W9 (some mb)) :
    MapC mb base val (pre ++ [x]) ((n, (A', c', l ++ [(x, x)])) :: L.filter fun y => decide (y.1 ≠ n)) W9 ∧ KpO (OwnM mb) W W9 ∧ (∀ B, mb < B → KeepsFrom B W W9) ∧ (∀ w5, Only mb none w5 W → w5.heap.size ≤ base → Only mb none w5 W9) := by
  have hs7 := h7.size
  have hs8 : W7.heap.size + 1 ≤ W8.heap.size := by have := HG.size; simp at this; omega
  have hs9 := hG9.size
  have hAow : ∀ g, ownA A = some g → (∃ y ∈ L, ownA y.2.1 = some g ∧ y.1 = n) ∧ base ≤ g ∧ g < W.heap.size := fun g hg => by
    rcases hl with ⟨y, hy, rfl⟩ | ⟨_, rfl, _⟩
    · exact ⟨⟨_, hy, hg, rfl⟩, (h.sets _ hy).lt g (by rw [own_ownA]; exact hg)⟩
    · cases hg
  have hold : ∀ k, k < W.heap.size → ownA A ≠ some k → W8.heap[k]? = W.heap[k]? := fun k hk hA =>
    (HG.block k (by simp; omega) (fun e => hA e.symm)).trans ((Below.heap_alloc _ _ _ (by omega)).trans (h7.block k hk))
  have hold9 : ∀ k, k < W.heap.size → ownA A ≠ some k → k ≠ mb → W9.heap[k]? = W.heap[k]? := fun k hk hA hm => (hG9.block k (by omega) (fun e => hm (by injection e))).trans (hold k hk hA)
  rw [mapPut_ch] at hM
  have hA9 : ∀ g, ownA A' = some g → base ≤ g ∧ g < W8.heap.size := fun g hg => HO.lt g (by rw [own_ownA]; exact hg)
  have hrow9 : SRow W9 base A' c' (l ++ [(x, x)]) := by
    unfold SRow
    have e : (l ++ [(x, x)]).length = l.length + 1 := by simp
    rw [e, spanCells_append]
    exact own_keep HO fun k hk => hG9.block k (hA9 k hk).2 (fun e => by injection e with e; have := hA9 k hk; omega)
  have hC : MapC mb base val (pre ++ [x]) ((n, (A', c', l ++ [(x, x)])) :: L.filter fun y => decide (y.1 ≠ n)) W9 := by
    refine ⟨hM, fun y hy => ?_, ?_, fun y hy => ?_, fun y hy => ?_, fun y hy => ?_⟩
    · rcases List.mem_cons.1 hy with rfl | hy
      · exact hrow9
      · obtain ⟨hy1, hy2⟩ := List.mem_filter.1 hy
        have hyn : y.1 ≠ n := by simpa using hy2
        have hlt := fun g hg => (h.sets y hy1).lt g (by rw [own_ownA]; exact hg)
        refine own_keep (h.sets y hy1) fun k hk => hold9 k (hlt k hk).2 (fun e => ?_) (fun e => by have := hlt k hk; omega)
        obtain ⟨⟨z, hz, hz1, hz2⟩, _⟩ := hAow k e
        exact h.apart z hz y hy1 (fun e => hyn (e ▸ hz2)) k hz1 hk
    · have key : ∀ y ∈ L, y.1 ≠ n → ∀ g, ownA A' = some g → ownA y.2.1 ≠ some g := fun y hy hyn g hg he => by
        have hlt := (h.sets y hy).lt g (by rw [own_ownA]; exact he)
        rcases HN with e | ⟨q, e, hq⟩
        · rw [e] at hg
          obtain ⟨⟨z, hz, hz1, hz2⟩, _⟩ := hAow g hg
          exact h.apart z hz y hy (fun e => hyn (e ▸ hz2)) g hz1 he
        · rw [e] at hg; injection hg with hg; omega
      intro y hy z hz hne g hg he
      rcases List.mem_cons.1 hy with rfl | hy
      · rcases List.mem_cons.1 hz with rfl | hz
        · exact hne rfl
        · exact key z (List.mem_filter.1 hz).1 (by simpa using (List.mem_filter.1 hz).2) g hg he
      · rcases List.mem_cons.1 hz with rfl | hz
        · exact key y (List.mem_filter.1 hy).1 (by simpa using (List.mem_filter.1 hy).2) g he hg
        · exact h.apart y (List.mem_filter.1 hy).1 z (List.mem_filter.1 hz).1 hne g hg he
    · rw [List.filter_append]
      rcases List.mem_cons.1 hy with rfl | hy
      · simp only [List.map_append]
        have e1 : [x].filter (fun y => val y == n) = [x] := by simp [hx]
        rw [e1]
        congr 1
        rcases hl with ⟨z, hz, rfl⟩ | ⟨hno, _, rfl⟩
        · exact h.body _ hz
        · have : pre.filter (fun y => val y == n) = [] := List.filter_eq_nil_iff.2 fun y hy hv => by
            obtain ⟨q, hq, hqe⟩ := h.all y hy
            exact hno q hq (hqe.trans (by simpa using hv))
          rw [this]; rfl
      · obtain ⟨hy1, hy2⟩ := List.mem_filter.1 hy
        have hyn : y.1 ≠ n := by simpa using hy2
        have e1 : [x].filter (fun z => val z == y.1) = [] := by simp [hx]; exact fun e => hyn e.symm
        rw [e1, List.append_nil]
        exact h.body y hy1
    · rcases List.mem_append.1 hy with hy | hy
      · obtain ⟨q, hq, hqe⟩ := h.all y hy
        by_cases hqn : q.1 = n
        · exact ⟨_, List.mem_cons_self .., by rw [← hqe, hqn]⟩
        · exact ⟨q, List.mem_cons_of_mem _ (List.mem_filter.2 ⟨hq, by simpa using hqn⟩), hqe⟩
      · obtain rfl := List.mem_singleton.1 hy
        exact ⟨_, List.mem_cons_self .., hx.symm⟩
    · rcases List.mem_cons.1 hy with rfl | hy
      · exact ⟨x, by simp, hx⟩
      · obtain ⟨q, hq, hqe⟩ := h.has y (List.mem_filter.1 hy).1
        exact ⟨q, by simp [hq], hqe⟩
  refine ⟨hC, ⟨by omega, fun p v hv hno => ?_, fun k hk => ?_, fun hw k hk => ?_⟩, fun B hB => ?_, fun w5 h5 h5b => ⟨?_, ?_, ?_, ?_, ?_⟩⟩
  · have hp := World.block_lt_of_cell? W p hv
    have hpm : p.block ≠ mb := fun e => by
      obtain ⟨es, cl, hb, _⟩ := h.mp
      unfold World.cell? at hv
      rw [e, hb] at hv
      cases hv
    refine (World.cell?_of_block (hold9 p.block hp (fun e => hno ?_) hpm)).trans hv
    obtain ⟨⟨z, hz, hz1, _⟩, _⟩ := hAow _ e
    exact (h.ownM _).2 ⟨z, hz, hz1⟩
  · obtain ⟨y, hy, hyk⟩ := (hC.ownM k).1 hk
    rcases List.mem_cons.1 hy with rfl | hy
    · rcases HN with e | ⟨q, e, hq⟩
      · simp only at hyk
        rw [e] at hyk
        obtain ⟨⟨z, hz, hz1, _⟩, _⟩ := hAow _ hyk
        exact .inl ((h.ownM _).2 ⟨z, hz, hz1⟩)
      · simp only at hyk
        rw [e] at hyk; injection hyk with hyk
        right; omega
    · exact .inl ((h.ownM _).2 ⟨y, (List.mem_filter.1 hy).1, hyk⟩)
  · obtain ⟨y, hy, hyk⟩ := (hC.ownM k).1 hk
    exact ((hC.sets y hy).lt k (by rw [own_ownA]; exact hyk)).2
  · have q1 : KeepsOthers W W7 := ⟨h7.size, fun k o hk _ => (h7.block k (Array.getElem?_eq_some_iff.1 hk).1).trans hk⟩
    refine (((q1.trans (KeepsOthers.alloc W7 ob)).trans (KeepsOthers.of_grownBy HG ?_)).from B).trans (KeepsFrom.of_grownBy hG9 fun j e => by injection e with e; omega)
    intro j oj hj hoj
    obtain ⟨_, hj1, hj2⟩ := hAow j hj
    rcases hl with ⟨y, hy, rfl⟩ | ⟨_, rfl, _⟩
    · rcases (h.sets _ hy).2 with ⟨h, _⟩ | ⟨g, cap, cur, h, _, hgg, _⟩
      · injection h with h; simp only at h; subst h; cases hj
      · injection h with h; simp only at h; subst h
        injection hj with hj; simp only at hj; subst hj
        rw [Below.heap_alloc _ _ _ (by omega), h7.block _ hj2, hgg] at hoj
        injection hoj with hoj; subst hoj; rfl
    · cases hj
  · exact hG9.os.trans (HG.os.trans (h7.os.trans h5.os))
  · exact hG9.tape.trans (HG.tape.trans (h7.tape.trans h5.tape))
  · exact hG9.output.trans (HG.output.trans (h7.output.trans h5.output))
  · have := h5.size; omega
  · intro k hk hm hr
    exact (hold9 k (Nat.lt_of_lt_of_le hk h5.size) (fun e => by have := (hAow k e).2.1; omega) hm).trans (h5.block k hk hm hr)
theorem nodup_le {l m : List Int} (h : l.Nodup) (hs : ∀ x ∈ l, x ∈ m) : l.length ≤ m.length := by
  induction l generalizing m with
  | nil => simp
  | cons x l ih =>
    obtain ⟨h1, h2⟩ := List.nodup_cons.1 h
    have hx := hs x (List.mem_cons_self ..)
    have h3 := ih h2 (m := m.erase x) fun y hy => (List.mem_erase_of_ne (fun e => h1 (by rw [← e]; exact hy))).2 (hs y (List.mem_cons_of_mem _ hy))
    rw [List.length_erase_of_mem hx] at h3
    have := List.length_pos_of_mem hx
    simp only [List.length_cons]; omega
theorem nums_bd {g : List Sp} (hp : Plain g) (h : ∀ x, InS g x → 0 ≤ x ∧ x ≤ 2097151) : (nums g).length ≤ 2097152 := by
  have hn : (nums g).Nodup := (numsL_rising hp).imp (fun h e => by omega)
  have := nodup_le hn (m := (List.range 2097152).map (fun (k : Nat) => (k : Int))) (fun x hx => by
    have := h x ((nums_mem g x).1 hx)
    exact List.mem_map.2 ⟨x.toNat, List.mem_range.2 (by omega), by omega⟩)
  simpa using this
theorem MapC.keys {mb base : Nat} {val : Int → Int} {pre : List Int} {L : List Ch} {W : World} (h : MapC mb base val pre L W) : (L.map (·.1)).Nodup := by
  obtain ⟨_, _, _, _, hn, _⟩ := h.mp
  rw [List.map_map] at hn
  refine nodup_of_map (fun x : Int => Value.int .i64 x) ?_
  rw [List.map_map]; exact hn
theorem nodup_inj {L : List Ch} (h : (L.map (·.1)).Nodup) {x y : Ch} (hx : x ∈ L) (hy : y ∈ L) (e : x.1 = y.1) : x = y := by
  induction L with
  | nil => cases hx
  | cons z L ih =>
    rw [List.map_cons, List.nodup_cons] at h
    rcases List.mem_cons.1 hx with hx1 | hx1
    · rcases List.mem_cons.1 hy with hy1 | hy1
      · rw [hx1, hy1]
      · exact absurd (List.mem_map.2 ⟨y, hy1, by rw [← e, hx1]⟩) h.1
    · rcases List.mem_cons.1 hy with hy1 | hy1
      · exact absurd (List.mem_map.2 ⟨x, hx1, by rw [e, hy1]⟩) h.1
      · exact ih h.2 hx1 hy1
theorem MapC.look {mb base : Nat} {val : Int → Int} {pre : List Int} {L : List Ch} {W : World} (h : MapC mb base val pre L W) {n : Int} (hn : (Lit.int .i64 n).wf = true) :
    ∃ A c l, ((∃ y ∈ L, y = (n, (A, c, l))) ∨ ((∀ y ∈ L, y.1 ≠ n) ∧ A = none ∧ l = [])) ∧ W.ownsRow base 52 2 (.slice A l.length c) l.length (spanCells l) ∧
      ∀ W', W'.heap[mb]? = W.heap[mb]? → (Instr.lookup 96 (.map (some mb)) (.int .i64 n) false).run Try.prog W' = .ok (.slice A l.length c) W' := by
  have hk : keyOf Try.prog 3 (.int .i64 n) = some (.int .i64 n) := Maps.keyOf_int_mk Try.underlying3 hn
  by_cases hex : ∃ y ∈ L, y.1 = n
  · obtain ⟨⟨n', A, c, l⟩, hy, rfl⟩ := hex
    refine ⟨A, c, l, .inl ⟨_, hy, rfl⟩, h.sets _ hy, fun W' hW => ?_⟩
    rcases (h.mp.same hW).look false (Maps.int_keyed Try.underlying3) Try.underlying96 (Try.zeroValue26 W') hk with ⟨hno, _⟩ | ⟨v, hv, hrun⟩
    · exact absurd rfl (hno _ (List.mem_map.2 ⟨_, hy, rfl⟩))
    · obtain ⟨z, hz, hze⟩ := List.mem_map.1 hv
      have h1 : z.1 = n' := by have := congrArg Prod.fst hze; simpa [chP] using this
      obtain rfl := nodup_inj h.keys hz hy h1
      have h2 : ival (A, c, l) = v := congrArg Prod.snd hze
      rw [hrun, ← h2]; rfl
  · have hno : ∀ y ∈ L, y.1 ≠ n := fun y hy e => hex ⟨y, hy, e⟩
    refine ⟨none, 0, [], .inr ⟨hno, rfl, rfl⟩, World.ownsRow_nil _ _ _ _, fun W' hW => ?_⟩
    rcases (h.mp.same hW).look false (Maps.int_keyed Try.underlying3) Try.underlying96 (Try.zeroValue26 W') hk with ⟨_, hrun⟩ | ⟨v, hv, _⟩
    · rw [hrun]; rfl
    · obtain ⟨z, hz, hze⟩ := List.mem_map.1 hv
      have h1 : z.1 = n := by have := congrArg Prod.fst hze; simpa [chP] using this
      exact absurd h1 (hno z hz)
theorem MapC.few {mb base : Nat} {val : Int → Int} {pre : List Int} {L : List Ch} {W : World} (h : MapC mb base val pre L W) {vs : List Sp} (hp : Plain vs) (hv : ∀ y ∈ pre, InS vs (val y)) : (L.length : Int) ≤ cnt vs := by
  rw [← nums_length hp]
  have := nodup_le (m := nums vs) h.keys fun n hn => by
    obtain ⟨x, hx, rfl⟩ := List.mem_map.1 hn
    obtain ⟨y, hy, he⟩ := h.has x hx
    rw [nums_mem, ← he]; exact hv y hy
  rw [List.length_map] at this
  omega
theorem yieldsIf_lookup {P : Program} {ops : Array Oper} {S : World → Prop} {o : Oper} {a : Act} {t : TypeId} {m x : Operand} {mv kv v : Value} (hw : Region.wanted o (yielded ops a.tmps) = true) (hop : o.op = Op.lookup t m x false) (hm : a.eval m = mv) (hx : a.eval x = kv)
    (h : ∀ w, S w → (Instr.lookup t mv kv false).run P w = .ok v w) : YieldsIf P ops S o v a :=
  .inl ⟨hw, fun w hS => by simp [execOp, hop, hm, hx, h w hS, Result.andThen]⟩
theorem wp_mapUpdate {P : Program} {o : Oper} {a : Act} {t : TypeId} {m x y : Operand} {mv kv v : Value} {w w' : World} {K : Act → World → Prop} {Q : Exit → Act → World → Prop} (hop : o.op = Op.mapUpdate t m x y) (hm : a.eval m = mv) (hx : a.eval x = kv) (hy : a.eval y = v)
    (h : (Instr.mapUpdate t mv kv v).run P w = .ok () w') (hK : K (a.put o.dst undef) w') : Oper.wp P o a w K Q := by
  unfold Oper.wp
  simp [execOp, hop, hm, hx, hy, h, Result.andThen]
  exact hK
/-- a range over a function whose body writes a map, outside of any fence -/
theorem wp_rangeFuncG {P : Program} {α : Type} {g : Operand} {ps : Array Tmp} {assign body : Code} {Q : Exit → Act → World → Prop} {a : Act} {w : World}
    {gf : Nat} {lb : Array Value} (hg : a.eval g = .func (.func gf) #[] lb) (eg : ∀ args w, (callFunc gf args).run P w = .ok (.enter gf args) w)
    {encs : α → Array Value} {Kp : World → World → Prop} {S Sp : List α → Prop} {N : Nat} (hseq : SeqStopsK Fence.wide 7 P gf lb encs Kp S Sp N w)
    (hKt : ∀ {A B C : World}, Kp A B → Kp B C → Kp A C) (hKb : ∀ (W : World) (l : Nat) (o o' : Obj), w.heap.size ≤ l → W.heap[l]? = some o → o.isCells = false → o.isWalk = false → Kp W (W.putObj l o')) (hps : ∀ x, (encs x).size = ps.size)
    (I : List α → World → Prop) (Ix : Code → List α → World → Prop) (hI : OwnFrom w.heap.size I) (hIx : ∀ c, OwnFrom w.heap.size (Ix c)) (h0 : I [] w) (a₁ : α → Act)
    (hassign : ∀ (l : Nat) (x : α) (W : World) (K : Act → World → Prop), K (a₁ x) W →
      assign.wpIn (Fence.wide.inRound l) 6 P (Exit.then K (fun _ _ _ => False)) { tmps := (ps.zip (encs x)).foldl (fun t (p, v) => t.setIfInBounds p v) a.tmps, defers := [] } W)
    (hbody : ∀ (l : Nat) (pre : List α) (x : α) (W : World), I pre W → pre.length < N → body.wpIn (Fence.wide.inRound l) 6 P (ownPostG w.heap.size Kp I Ix (pre ++ [x]) W) (a₁ x) W)
    (hdone : ∀ (D : Nat) (xs : List α) (W : World), w.heap.size ≤ D → S xs → I xs W → W.heap[D]? = some (.deferred (some [])) → Q .normal { a with defers := { target := .collected D, args := #[] } :: a.defers } W)
    (hstop : ∀ (D : Nat) (c : Code) (pre : List α) (W : World), w.heap.size ≤ D → Sp pre → Ix c pre W → W.heap[D]? = some (.deferred (some [])) → c.wp P Q { a with defers := { target := .collected D, args := #[] } :: a.defers } W) :
    (Code.rangeFunc g ps assign body).wp P Q a w :=
  (wpIn_wide (n := 8)).1 (wpIn_rangeFunc_ownG (F := Fence.wide) rfl (by omega) hg trivial eg hseq hKt hKb (Below.refl _ _) hps I Ix hI hIx h0 a₁ hassign hbody hdone
    (fun D c pre W h1 h2 h3 h4 => (wpIn_wide (n := 8)).2 (hstop D c pre W h1 h2 h3 h4)))
def sumP (ps : List PartL) (x : Int) : Int := (ps.map fun p => pval p.2.1 p.2.2.1 p.2.2.2 x).sum
theorem sumP_snoc (ps : List PartL) (p : PartL) (x : Int) : sumP (ps ++ [p]) x = sumP ps x + pval p.2.1 p.2.2.1 p.2.2.2 x := by simp [sumP]
theorem sumP_bd {ps : List PartL} (h : ∀ p ∈ ps, bitsB p.2.1 p.2.2.1 p.2.2.2 = true) (x : Int) : 0 ≤ sumP ps x ∧ sumP ps x ≤ 67108864 * ps.length := by
  induction ps with
  | nil => simp [sumP]
  | cons p ps ih =>
    have h1 := ih fun q hq => h q (List.mem_cons_of_mem _ hq)
    have h2 := pval_bd (h p (List.mem_cons_self ..)) x
    simp only [sumP, List.map_cons, List.sum_cons, List.length_cons] at h1 ⊢
    omega
end Go.Proofs.Ytpmhdjiacgckjaa
end
section
namespace Go.Proofs.Ytpmhdjiacgckjaa
open Go.RowKit Go.Sort Go.Lib
set_option linter.unusedVariables false
abbrev ChS := { x : Ch // 0 ≤ x.1 ∧ x.1 ≤ 1099511627776 }
instance : Inhabited ChS := ⟨⟨(0, (none, 0, [])), by simp⟩⟩
def encCh (x : ChS) : List Value := chC x.1
theorem flat_ch (l : List ChS) : (flatK encCh 2 l.toArray).toList = (l.map (·.1)).flatMap chC := by
  have hlen : ∀ m : List ChS, ((m.map (·.1)).flatMap chC).length = m.length * 2 := fun m => by
    induction m with
    | nil => rfl
    | cons x m ih => rw [List.map_cons, List.flatMap_cons, List.length_append, ih]; simp [chC]; omega
  have hat : ∀ (m : List ChS) (j i : Nat) x, m[j]? = some x → i < 2 → ((m.map (·.1)).flatMap chC)[j * 2 + i]? = (chC x.1)[i]? := fun m => by
    induction m with
    | nil => intro j i x h; simp at h
    | cons y m ih =>
      intro j i x h hi
      rw [List.map_cons, List.flatMap_cons]
      cases j with
      | zero =>
        simp at h; subst h
        rw [List.getElem?_append_left (by simp [chC]; omega)]; simp
      | succ j =>
        rw [List.getElem?_append_right (by simp [chC]; omega)]
        have := ih j i x (by simpa using h) hi
        rw [← this]
        congr 1
        simp [chC]; omega
  apply List.ext_getElem?
  intro t
  by_cases ht : t < l.length * 2
  · have h1 : l[t / 2]? = some (l[t / 2]'(by omega)) := List.getElem?_eq_getElem (by omega)
    have e : (flatK encCh 2 l.toArray).toList[t]? = some ((encCh (l[t / 2]'(by omega)))[t % 2]!) := by
      rw [Array.getElem?_toList, Array.getElem?_eq_getElem (by simpa using ht)]
      simp [flatK, show t / 2 < l.length by omega]
    have e2 := hat l (t / 2) (t % 2) _ h1 (by omega)
    rw [show t / 2 * 2 + t % 2 = t by omega] at e2
    rw [e, e2]
    rcases Nat.mod_two_eq_zero_or_one t with m | m <;> rw [m] <;> simp [encCh, chC]
  · rw [List.getElem?_eq_none (by simp; omega), List.getElem?_eq_none (by rw [hlen]; omega)]
theorem closureCh_any (x y : ChS) (W : World) : Calls Try.prog 69 #[.agg #[.int .i64 x.1.1, ival x.1.2], .agg #[.int .i64 y.1.1, ival y.1.2]] W fun e w' => e = .returned (.int .i64 (x.1.1 - y.1.1)) ∧ ∃ q os', w' = grow (W.drewN q) os' := by
  obtain ⟨⟨x1, xi⟩, hx⟩ := x
  obtain ⟨⟨y1, yi⟩, hy⟩ := y
  simp only at hx hy
  obtain ⟨xv, hxv⟩ : ∃ v, ival xi = v := ⟨_, rfl⟩
  obtain ⟨yv, hyv⟩ : ∃ v, ival yi = v := ⟨_, rfl⟩
  have h1 : xv.oneCell' = true := by rw [← hxv]; rfl
  have h2 : yv.oneCell' = true := by rw [← hyv]; rfl
  unfold ival at hxv hyv ⊢
  clear h1 h2 hxv hyv
  go_enter Try.func69, Try.ntmps69
  go_wp2
  go_ret
  exact ⟨ret_int (by rfl), 0, _, by rw [alloc_eq_grow, alloc_eq_grow, grow_grow]; rfl⟩
theorem ltCh (x y : ChS) : Proofs.ltOf (fun x y : ChS => x.1.1 - y.1.1) x y = decide (x.1.1 < y.1.1) := by
  unfold Proofs.ltOf
  rw [decide_eq_decide]
  show x.1.1 - y.1.1 < 0 ↔ _
  omega
theorem swoCh : SWO (Proofs.ltOf fun x y : ChS => x.1.1 - y.1.1) where
  irrefl x := by rw [ltCh]; simp
  trans x y z h1 h2 := by rw [ltCh] at *; simp at *; omega
  ntrans x y z h1 h2 := by rw [ltCh] at *; simp at *; omega
theorem take_putCh (cur : Array Value) (l : List ChS) (h : l.length * 2 ≤ cur.size) : (putCells id 0 (flatK encCh 2 l.toArray) cur).toList.take (l.length * 2) = (l.map (·.1)).flatMap chC := by
  rw [← flat_ch l]
  apply List.ext_getElem?
  intro j
  by_cases hj : j < l.length * 2
  · rw [List.getElem?_take_of_lt hj, Array.getElem?_toList, Array.getElem?_toList]
    have : j < (flatK encCh 2 l.toArray).size := by simpa using hj
    simp [putCells, hj, show j < cur.size by omega, getElem!_pos]
  · rw [List.getElem?_take_eq_none (by omega), List.getElem?_eq_none (by simp; omega)]
theorem grown_sortedCh {w : World} {g n : Nat} {os : Array Obj} (d : Array ChS) : w.grownBy (Proofs.sortWorldK encCh 2 w g 0 n d os) (some g) := by
  refine ⟨rfl, rfl, rfl, by simp [Proofs.sortWorldK, putRowK], fun k hk hne => ?_⟩
  unfold Proofs.sortWorldK
  rw [heap_grow_old _ _ (by simpa [putRowK] using hk)]
  have : g ≠ k := fun e => hne (by rw [e])
  simp [putRowK, putRow, mapBlock, Sort.ahead, Array.getElem?_modify, this]
theorem chC_length (L : List Ch) : (L.flatMap chC).length = L.length * 2 := by
  induction L with
  | nil => rfl
  | cons x L ih => rw [List.flatMap_cons, List.length_append, ih]; simp [chC]; omega
theorem SortCh_any (base g cap : Nat) (l : List ChS) (w : World) (h : w.ownsRow base 88 2 (.slice (some ⟨g, 0, none⟩) l.length cap) l.length ((l.map (·.1)).flatMap chC)) (hn : l.length < 1099511627776) :
    Calls Try.prog 68 #[.slice (some ⟨g, 0, none⟩) l.length cap, .func (.func 69) #[] #[]] w fun e w' => e = .returned (.tuple #[]) ∧
      ∃ l' : List ChS, l'.length = l.length ∧ l'.Perm l ∧ l'.Pairwise (fun p q => p.1.1 ≤ q.1.1) ∧ w'.ownsRow base 88 2 (.slice (some ⟨g, 0, none⟩) l.length cap) l.length ((l'.map (·.1)).flatMap chC) ∧ w.grownBy w' (some g) := by
  have eg : ∀ args w, (callFunc 69 args).run Try.prog w = .ok (.enter 69 args) w := enters_of Try.func69 (by kernel_rfl) rfl
  have hsh : ∃ cur, base ≤ g ∧ w.heap[g]? = some (.cells cur 88 (0, 0)) ∧ l.length ≤ cap ∧ cap ≤ maxLen ∧ cur.size = cap * 2 ∧ cur.toList.take (l.length * 2) = (l.map (·.1)).flatMap chC := by
    rcases h.2 with ⟨e0, _⟩ | ⟨g', cap', cur, e0, hb, hg, hn, hm, hs, ht⟩
    · cases e0
    · injection e0 with e1 _ e3
      injection e1 with e1
      injection e1 with e1
      subst e1; subst e3
      exact ⟨cur, hb, hg, hn, hm, hs, ht⟩
  obtain ⟨cur, hb, hg, hc, hm, hs, ht⟩ := hsh
  have hlt : g < w.heap.size := (Array.getElem?_eq_some_iff.1 hg).1
  have hH : HoldsK encCh 2 w g 0 l.toArray := by
    intro j hj
    have hj' : j < l.length * 2 := by simpa using hj
    refine ⟨?_, by simp [World.frozen?, hg]⟩
    have h1 : (cur.toList.take (l.length * 2))[j]? = (flatK encCh 2 l.toArray).toList[j]? := by rw [ht, flat_ch]
    rw [List.getElem?_take_of_lt hj', Array.getElem?_toList, Array.getElem?_toList, Array.getElem?_eq_getElem hj] at h1
    simp only [World.cell?, hg, Nat.zero_add]
    simp only [Option.isSome_none, Bool.false_eq_true, if_false]
    rw [h1, getElem!_pos _ j hj]
    rfl
  have hcon := Proofs.AnyQ.slices_SortFunc Try.sortChoice 2 Try.isAgg88 Try.sizeOf88 encCh (fun _ => rfl) (fun x v hv => by simp [encCh, chC] at hv; rcases hv with rfl | rfl <;> rfl) (fun x y : ChS => x.1.1 - y.1.1) swoCh 69 #[] g 0 cap l.toArray w eg
    (fun _ _ _ _ x y => closureCh_any x y _) hH hlt (by simp; omega)
  refine Calls.mono hcon ?_
  rintro e w' ⟨rfl, d', n, os, hp, hso, rfl⟩
  have hsz : d'.size = l.length := by simpa using hp.1
  refine ⟨rfl, d'.toList, by simpa using hsz, ?_, ?_, ?_, grown_sortedCh d'⟩
  · have := hp.2.2
    rw [show (l.toArray.extract 0 l.toArray.size).toList = l by simp] at this
    rw [show (d'.extract 0 l.toArray.size).toList = d'.toList by simp [← hsz]] at this
    exact this
  · rw [List.pairwise_iff_getElem]
    intro i j hi hj hij
    have := hso i j (by omega) hij (by simp at hj ⊢; omega)
    rw [ltCh, getElem!_pos d' i (by simpa using hi), getElem!_pos d' j (by simpa using hj)] at this
    simp at this ⊢
    exact this
  · refine ⟨by rw [chC_length]; simp [hsz], .inr ⟨g, cap, putCells id 0 (flatK encCh 2 d') cur, rfl, hb, ?_, hc, hm, ?_, ?_⟩⟩
    · unfold Proofs.sortWorldK
      rw [heap_grow_old _ _ (by simpa [putRowK] using hlt)]
      simp [putRowK, putRow, mapBlock, Sort.ahead, Array.getElem?_modify, hg, onCells]
    · simpa [putCells] using hs
    · have := take_putCh cur d'.toList (by simp [hsz]; omega)
      simpa [hsz] using this
end Go.Proofs.Ytpmhdjiacgckjaa
end
section
namespace Go.Proofs.Ytpmhdjiacgckjaa
open Go.RowKit
set_option linter.unusedVariables false
set_option linter.unusedSimpArgs false
def vOk (d t u x : Int) : Bool := bitsB d t u && decide (0 ≤ x) && decide (x ≤ 2097151)
def vNum (d t u x : Int) : Int := if vOk d t u x then pval d t u x else 0
theorem vTup (d t u x : Int) : (if bitsB d t u = true ∧ 0 ≤ x ∧ x ≤ 2097151 then Value.tuple #[.int .i64 (pval d t u x), .bool true] else .tuple #[.int .i64 0, .bool false]) = .tuple #[.int .i64 (vNum d t u x), .bool (vOk d t u x)] := by
  unfold vNum
  split
  · rename_i h
    have : vOk d t u x = true := by simp [vOk, h.1, h.2.1, h.2.2]
    rw [this]; simp
  · rename_i h
    have : vOk d t u x = false := by
      rw [← Bool.not_eq_true]
      intro e
      simp [vOk, and_assoc] at e
      exact h e
    rw [this]; simp
theorem vOk_iff (d t u x : Int) : vOk d t u x = true ↔ (bitsB d t u = true ∧ 0 ≤ x ∧ x ≤ 2097151) := by simp [vOk, and_assoc]

section
variable {w0 w : World} {F : World → Prop} {A B : Option Addr} {a0 b0 r : List Sp}
theorem Value_st (hK : Hid (St w0 w F)) (a d t u x : Int) {v : Int} {ok : Bool} (h : vNum d t u x = v) (h' : vOk d t u x = ok) : Calls Try.prog 47 #[.agg #[.int .i64 a, .int .i64 d, .int .i64 t, .int .i64 u], .int .i64 x] w (RetV w0 (.tuple #[.int .i64 v, .bool ok]) F) := by
  subst h; subst h'
  have := Value_any a d t u x w
  rw [vTup] at this
  exact retV_gives hK this
theorem rValue_st (hK : Hid (St w0 w F)) (a d t u x : Int) {v : Int} {ok : Bool} (h : vNum d t u x = v) (h' : vOk d t u x = ok) : Calls Try.prog 41 #[.agg #[.int .i64 a, .int .i64 d, .int .i64 t, .int .i64 u], .int .i64 x] w (RetV w0 (.tuple #[.int .i64 v, .bool ok]) F) := by
  subst h; subst h'
  have := rValue_any a d t u x w
  rw [vTup] at this
  exact retV_gives hK this
end
end Go.Proofs.Ytpmhdjiacgckjaa
end
