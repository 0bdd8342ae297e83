/- The plain law of span.Norm: clipped spans, sorted by their lower ends and joined where they touch, are the plain list of the set; and what appending within a row does. No function of the program in sight. Condition: none. Contract of span.Norm: the plain list of a set, in a row of the call's own. Condition: a list of fewer than 2^40 spans, whose numbers are ints. The plain laws of span.Meet, span.Minus and span.Count: what is in both of two plain lists, what lies between the spans of one, how many numbers. No program in sight. Condition: none. Contract of span.Meet: the plain list of what is in both of two sets, in a row of the call's own. Condition: lists of fewer than 2^38 spans, whose numbers are ints. Contracts of span.Minus and span.Count. Condition: lists of fewer than 2^37 spans, whose numbers are ints. Contract of umlautref01.Norm. Condition: lists of fewer than 2^20 spans, whose numbers are ints. The state of a walk: what is known of the slices at hand stays known. No function of the program in sight. Condition: none. -/
import Derived.Test.YtpmhdjiacgckjaaM03
import Derived.Test.YtpmhdjiacgckjaaM02
import Derived.Lib.MinMax
section
namespace Go.Proofs.Ytpmhdjiacgckjaa
open Go.RowKit
set_option linter.unusedVariables false

def clip (p : Sp) : Sp := (max p.1 (-1073741824), min p.2 1073741824)
def clips : List Sp → List Sp
  | [] => []
  | p :: l => if (clip p).1 ≤ (clip p).2 then clip p :: clips l else clips l
theorem clips_append (l m : List Sp) : clips (l ++ m) = clips l ++ clips m := by
  induction l with
  | nil => rfl
  | cons p l ih => simp only [List.cons_append, clips, ih]; split <;> rfl
theorem clips_length (l : List Sp) : (clips l).length ≤ l.length := by
  induction l with
  | nil => simp [clips]
  | cons p l ih => simp only [clips]; split <;> simp <;> omega
theorem clips_mem {l : List Sp} {p : Sp} (h : p ∈ clips l) : -1073741824 ≤ p.1 ∧ p.1 ≤ p.2 ∧ p.2 ≤ 1073741824 := by
  induction l with
  | nil => cases h
  | cons q l ih =>
    simp only [clips] at h
    split at h
    · rename_i hq
      rcases List.mem_cons.1 h with rfl | h
      · refine ⟨?_, hq, ?_⟩ <;> simp only [clip] <;> omega
      · exact ih h
    · exact ih h
theorem clips_InS (l : List Sp) (x : Int) : InS (clips l) x ↔ Mem l x := by
  unfold Mem
  induction l with
  | nil => simp [clips, InS]
  | cons q l ih =>
    simp only [clips, InS]
    split
    · simp only [InS, ih]
      simp only [clip]
      constructor
      · rintro (⟨h1, h2⟩ | ⟨h1, h2, h3⟩)
        · exact ⟨by omega, by omega, .inl ⟨by omega, by omega⟩⟩
        · exact ⟨h1, h2, .inr h3⟩
      · rintro ⟨h1, h2, h3 | h3⟩
        · exact .inl ⟨by omega, by omega⟩
        · exact .inr ⟨h1, h2, h3⟩
    · rename_i hq
      rw [ih]
      simp only [clip] at hq
      constructor
      · rintro ⟨h1, h2, h3⟩; exact ⟨h1, h2, .inr h3⟩
      · rintro ⟨h1, h2, h3 | h3⟩
        · omega
        · exact ⟨h1, h2, h3⟩
theorem InS_perm {l m : List Sp} (h : l.Perm m) (x : Int) : InS l x ↔ InS m x := by
  rw [InS_iff, InS_iff]
  exact ⟨fun ⟨p, hp, g⟩ => ⟨p, h.mem_iff.1 hp, g⟩, fun ⟨p, hp, g⟩ => ⟨p, h.mem_iff.2 hp, g⟩⟩

/-- what holds of what has been joined of the first i -/
structure NInv (l : List Sp) (i : Nat) (o : List Sp) : Prop where
  plain : Plain o
  same : ∀ x, InS o x ↔ InS (l.take i) x
  len : o.length ≤ i
  low : ∀ p ∈ o, ∀ y ∈ l.drop i, p.1 ≤ y.1
def Srt (l : List Sp) : Prop := l.Pairwise (fun p q => p.1 ≤ q.1) ∧ ∀ p ∈ l, -1073741824 ≤ p.1 ∧ p.1 ≤ p.2 ∧ p.2 ≤ 1073741824
theorem NInv.start (l : List Sp) : NInv l 0 [] := ⟨trivial, fun x => by simp [InS], by simp, by simp⟩
theorem srt_later {l : List Sp} (h : Srt l) {i : Nat} {x : Sp} (hi : l[i]? = some x) : ∀ y ∈ l.drop (i + 1), x.1 ≤ y.1 := by
  have h1 : (l.drop i).Pairwise (fun p q => p.1 ≤ q.1) := h.1.sublist (List.drop_sublist _ _)
  rw [drop_cons? hi] at h1
  exact (List.pairwise_cons.1 h1).1
theorem NInv.push {l o : List Sp} {i : Nat} {x : Sp} (hs : Srt l) (h : NInv l i o) (hi : l[i]? = some x) (hg : ∀ m q, o = m ++ [q] → q.2 + 1 < x.1) : NInv l (i + 1) (o ++ [x]) := by
  have hx := hs.2 x (List.mem_of_getElem? hi)
  refine ⟨?_, fun z => ?_, by have := h.len; simp; omega, ?_⟩
  · refine PlainF.snoc h.plain (by omega) (fun p hp => ?_) hx.2.1 hx.2.2
    rcases snoc_cases o with rfl | ⟨m, q, rfl⟩
    · cases hp
    · have hq := hg m q rfl
      have hl := PlainF.last h.plain
      rcases List.mem_append.1 hp with hp | hp
      · have := hl.2.1 p hp; omega
      · simp at hp; subst hp; exact hq
  · rw [take_snoc? hi, InS_append, InS_append, h.same]
  · intro p hp y hy
    rcases List.mem_append.1 hp with hp | hp
    · exact h.low p hp y (by rw [drop_cons? hi]; exact List.mem_cons_of_mem _ hy)
    · simp at hp; subst hp; exact srt_later hs hi y hy
theorem NInv.merge {l m : List Sp} {i : Nat} {x q : Sp} (hs : Srt l) (h : NInv l i (m ++ [q])) (hi : l[i]? = some x) (hg : x.1 ≤ q.2 + 1) : NInv l (i + 1) (m ++ [(q.1, max q.2 x.2)]) := by
  have hx := hs.2 x (List.mem_of_getElem? hi)
  have hl := PlainF.last h.plain
  have hq : q.1 ≤ x.1 := h.low q (by simp) x (by rw [drop_cons? hi]; simp)
  have hp0 : PlainF (-1073741826) (m ++ [q]) := h.plain
  have hqa : q.1 ∈ [q.1] := by simp
  have hqq : InS (m ++ [q]) q.1 := (InS_append _ _ _).2 (.inr (.inl ⟨by omega, hl.2.2.1⟩))
  have hql := hp0.low hqq
  refine ⟨?_, fun z => ?_, by have := h.len; simp at *; omega, ?_⟩
  · exact PlainF.snoc (PlainF.init hp0) hql (fun p hp => hl.2.1 p hp) (by simp only; omega) (by simp only; omega)
  · rw [take_snoc? hi, InS_append (l.take i), ← h.same, InS_append, InS_append]
    simp only [InS, or_false]
    constructor
    · rintro (g | g)
      · exact .inl (.inl g)
      · by_cases e : z ≤ q.2
        · exact .inl (.inr ⟨g.1, e⟩)
        · exact .inr ⟨by omega, by omega⟩
    · rintro ((g | g) | g)
      · exact .inl g
      · exact .inr ⟨g.1, by omega⟩
      · exact .inr ⟨by omega, by omega⟩
  · intro p hp y hy
    have hy' : y ∈ l.drop i := by rw [drop_cons? hi]; exact List.mem_cons_of_mem _ hy
    rcases List.mem_append.1 hp with hp | hp
    · exact h.low p (by simp [hp]) y hy'
    · simp at hp; subst hp; exact h.low q (by simp) y hy'
theorem NInv.rep {l l0 o : List Sp} (h : NInv l l.length o) (hp : l.Perm (clips l0)) : Rep o (Mem l0) := by
  refine ⟨h.plain, fun x => ?_⟩
  rw [h.same, List.take_length, InS_perm hp, clips_InS]

/-- a slice's own first elements -/
theorem own_cut {w : World} {base : Nat} {t : TypeId} {g n cap k : Nat} {M o : List Sp} (h : w.ownsRow base t 2 (.slice (some ⟨g, 0, none⟩) n cap) n (spanCells M)) (hk : k ≤ n) (ho : M.take k = o) : w.ownsRow base t 2 (.slice (some ⟨g, 0, none⟩) k cap) k (spanCells o) := by
  subst ho
  have hM : M.length = n := by have := h.1; rw [spanCells_length] at this; omega
  rcases h.2 with ⟨e0, _⟩ | ⟨g', cap', cur, e0, hb, hg, hn, hm, hs, ht⟩
  · cases e0
  · injection e0 with e1 _ e3
    injection e1 with e1
    injection e1 with e1
    subst e1; subst e3
    refine ⟨by rw [spanCells_length]; simp; omega, .inr ⟨g, cap, cur, rfl, hb, hg, by omega, hm, hs, ?_⟩⟩
    have e : spanCells M = spanCells (M.take k) ++ spanCells (M.drop k) := by rw [← spanCells_append, List.take_append_drop]
    have e2 : cur.toList.take (k * 2) = (cur.toList.take (n * 2)).take (k * 2) := by rw [List.take_take, Nat.min_eq_left (by omega)]
    rw [e2, ht, e, List.take_append_of_le_length (by rw [spanCells_length]; simp; omega), List.take_of_length_le (by rw [spanCells_length]; simp; omega)]

theorem spanCells_put (M : List Sp) (k : Nat) (x : Sp) (hk : k < M.length) : (spanCells M).take (k * 2) ++ [.int .i64 x.1, .int .i64 x.2] ++ (spanCells M).drop (k * 2 + 2) = spanCells (M.set k x) := by
  induction M generalizing k with
  | nil => simp at hk
  | cons q M ih =>
    have e : ∀ (q : Sp) M, spanCells (q :: M) = .int .i64 q.1 :: .int .i64 q.2 :: spanCells M := fun q M => by simp [spanCells]
    cases k with
    | zero => simp [e]
    | succ k =>
      have := ih k (by simpa using hk)
      simp only [List.set_cons_succ, e, show (k + 1) * 2 = k * 2 + 1 + 1 from by omega, show k * 2 + 1 + 1 + 2 = (k * 2 + 2) + 1 + 1 from by omega, List.take_succ_cons, List.drop_succ_cons, List.cons_append]
      rw [this]

theorem take_three (c news : List Value) (a b : Nat) (hn : news.length = 2) (hk : a + 2 ≤ b) (hl : b ≤ c.length) : (c.take a ++ news ++ c.drop (a + 2)).take b = c.take a ++ news ++ (c.drop (a + 2)).take (b - (a + 2)) := by
  have h1 : (c.take a ++ news).length = a + 2 := by simp; omega
  rw [List.take_append, h1, List.take_of_length_le (by omega)]

/-- 'out = append(out, x)' within a row that the call owns: the element takes its place in the row -/
theorem wpList_room {P : Program} {w0 : World} {ops : Array Oper} {rest : List Oper} {o : Oper} {a : Act} {Q : Exit → Act → World → Prop} (hgd : o.guard = none) (s x : Operand) (t : TypeId)
    (ho : o.op = .call { callee := .builtin .append, args := #[s, x], argTypes := #[t, t] })
    (base : Nat) (e : TypeId) (i : TypeInfo) (ht : P.underlying t = some (.slice e)) (hi : P.info? e = some i) (hsize : i.size = 2)
    {g n cap k : Nat} {M : List Sp} (hown : w0.ownsRow base e 2 (.slice (some ⟨g, 0, none⟩) n cap) n (spanCells M)) (hk : k < n) (hs : a.eval s = .slice (some ⟨g, 0, none⟩) k cap)
    (y : Sp) (e' : TypeId) (hx : a.eval x = .slice (some ⟨w0.heap.size, 0, none⟩) 1 1)
    (h : ∀ w', w'.ownsRow base e 2 (.slice (some ⟨g, 0, none⟩) n cap) n (spanCells (M.set k y)) → (w0.alloc (.cells #[.int .i64 y.1, .int .i64 y.2] e')).grownBy w' (some g) → wpList P ops Q rest (a.put o.dst (.slice (some ⟨g, 0, none⟩) (k + 1) cap)) w') :
    wpList P ops Q (o :: rest) a (w0.alloc (.cells #[.int .i64 y.1, .int .i64 y.2] e')) := by
  have hM : M.length = n := by have := hown.1; rw [spanCells_length] at this; omega
  have hal := hown.alloc (.cells #[.int .i64 y.1, .int .i64 y.2] e')
  have key : ∃ w', (Builtin.append_ #[t, t] o.type #[.slice (some ⟨g, 0, none⟩) k cap, .slice (some ⟨w0.heap.size, 0, none⟩) 1 1]).run P (w0.alloc (.cells #[.int .i64 y.1, .int .i64 y.2] e')) = .ok (.slice (some ⟨g, 0, none⟩) (k + 1) cap) w' ∧
      w'.ownsRow base e 2 (.slice (some ⟨g, 0, none⟩) n cap) n (spanCells (M.set k y)) ∧ (w0.alloc (.cells #[.int .i64 y.1, .int .i64 y.2] e')).grownBy w' (some g) := by
    rcases hal.2 with ⟨e0, _⟩ | ⟨g', cap', cur, e0, hb, hg, hn, hm, hcs, htk⟩
    · cases e0
    · injection e0 with e1 _ e3
      injection e1 with e1
      injection e1 with e1
      subst e1; subst e3
      have hr := run_append_room (P := P) (w0.alloc (.cells #[.int .i64 y.1, .int .i64 y.2] e')) t o.type e i ht hi g k cap cur hg ⟨w0.heap.size, 0, none⟩ 1 1 [.int .i64 y.1, .int .i64 y.2] (by rw [hsize]; rfl)
        (fun j u hu => by
          have e : (⟨w0.heap.size, 0, none⟩ : Addr).add j = ⟨w0.heap.size, 0 + j, none⟩ := by unfold Addr.add; split <;> simp_all
          rw [e]
          have hb := heap_alloc_new w0 (.cells #[.int .i64 y.1, .int .i64 y.2] e')
          simp only [World.cell?, hb]
          simpa using hu)
        (by intro u hu; simp at hu; rcases hu with rfl | rfl <;> rfl) (by omega) (by rw [hsize, hcs]; simp; omega)
      refine ⟨_, hr, ⟨by rw [spanCells_length]; simp [hM], .inr ⟨g, cap, _, rfl, hb, setRow_heap _ g cur _ e _ hg, hn, hm, ?_, ?_⟩⟩, ⟨rfl, rfl, rfl, by simp, fun j _ hj => setRow_other _ g j _ (fun e => hj (by simp [e]))⟩⟩
      · simp only [List.size_toArray, List.length_append, List.length_take, List.length_drop, Array.length_toList, hsize, List.length_cons, List.length_nil]
        omega
      · rw [← spanCells_put M k y (by omega), ← htk, hsize]
        simp only [List.length_cons, List.length_nil]
        have hlen : cur.toList.length = cap * 2 := by simpa using hcs
        rw [List.take_take, Nat.min_eq_left (by omega), List.drop_take]
        exact take_three _ _ _ _ rfl (by omega) (by omega)
  obtain ⟨w', hr, h2, h3⟩ := key
  refine wpList_plain hgd fun K hK => ?_
  unfold Oper.wp execOp
  simp only [ho, resolve, invoke, builtin, Sem.run_bind, Sem.run_pure, Result.andThen_ok, List.map_toArray, List.map_cons, List.map_nil, hs, hx, hr]
  exact hK _ _ (h w' h2 h3)

theorem room_push (o J ls : List Sp) (i : Nat) (x : Sp) (hi : ls[i]? = some x) (hl : o.length + J.length = i) : ∃ J', (o ++ J ++ ls.drop i).set o.length x = (o ++ [x]) ++ J' ++ ls.drop (i + 1) ∧ (o ++ [x]).length + J'.length = i + 1 := by
  cases J with
  | nil =>
    refine ⟨[], ?_, by simp at *; omega⟩
    rw [drop_cons? hi]
    simp
  | cons y J =>
    refine ⟨J ++ [x], ?_, by simp at *; omega⟩
    rw [drop_cons? hi]
    simp
theorem room_merge (m J ls : List Sp) (q : Sp) (i : Nat) (x : Sp) (z : Int) (hi : ls[i]? = some x) (hl : (m ++ [q]).length + J.length = i) :
    ∃ J', (spanCells ((m ++ [q]) ++ J ++ ls.drop i)).set (m.length * 2 + 1) (.int .i64 z) = spanCells ((m ++ [(q.1, z)]) ++ J' ++ ls.drop (i + 1)) ∧ (m ++ [(q.1, z)]).length + J'.length = i + 1 := by
  refine ⟨J ++ [x], ?_, by simp at *; omega⟩
  have e : (m ++ [(q.1, z)]) ++ (J ++ [x]) ++ ls.drop (i + 1) = (m ++ [(q.1, z)]) ++ (J ++ ls.drop i) := by rw [drop_cons? hi]; simp
  rw [e, List.append_assoc, spanCells_append (m ++ [q]), spanCells_append (m ++ [(q.1, z)]), ← spanCells_set m q z]
  exact List.set_append_left _ _ (by rw [spanCells_length]; simp; omega)
theorem row_at (o J ls : List Sp) (i : Nat) (x : Sp) (hi : ls[i]? = some x) (hl : o.length + J.length = i) : (o ++ J ++ ls.drop i)[i]? = some x := by
  rw [List.getElem?_append_right (by simp; omega), List.getElem?_drop]
  rw [← hi]; congr 1; simp; omega
theorem row_last (m J ls : List Sp) (q : Sp) (i : Nat) : ((m ++ [q]) ++ J ++ ls.drop i)[m.length]? = some q := by simp
end Go.Proofs.Ytpmhdjiacgckjaa
end
section
namespace Go.Proofs.Ytpmhdjiacgckjaa
open Go.RowKit
set_option linter.unusedVariables false

/-- a call that returns the plain list of a set, in a row of its own -/
def OwnRep (w : World) (base : Nat) (r : List Sp) (e : Ending) (w' : World) : Prop := ∃ v, e = .returned v ∧ v ≠ .slice none 0 0 ∧ w'.ownsRow base 52 2 v r.length (spanCells r) ∧ Below base w w'

set_option maxRecDepth 100000 in
set_option maxHeartbeats 16000000 in
theorem Norm_any (A : Option Addr) (n c : Nat) (l : List Sp) (w : World) (h : Spans w A n l) (hw : SpW l) (hn : n < 1099511627776) :
    Calls Try.prog 45 #[.slice A n c] w fun e w' => ∃ r, OwnRep w w.heap.size r e w' ∧ Rep r (Mem l) ∧ r.length ≤ n := by
  obtain ⟨i0, hi, hz0, hz1, hz2⟩ := info_parts info59
  obtain ⟨wm, hmk, hom, hgm⟩ := run_make_own (P := Try.prog) w w.heap.size 26 52 i0 _ 2 Try.underlying26 hi hz0 hz1 .i64 .i64 n (by rw [hz2]; omega) (by unfold maxLen; omega) (Nat.le_refl _)
  have hbm : Below w.heap.size w wm := (Below.refl _ _).grown hgm (Nat.le_refl _) (fun k hk => by cases hk)
  have HL := Lib.hid h.len
  have HA := Lib.hid h
  have HBM := Lib.hid hbm
  have HOM := Lib.hid hom
  clear h hbm hom hgm
  go_enter Try.func45, Try.ntmps45
  go_wp2_with fail
  go_loopw [3, 15] (fun v i wr => ∃ k : Nat, k ≤ n ∧ i = .int .i64 k ∧ wr.ownsRow w.heap.size 52 2 v (clips (l.take k)).length (spanCells (clips (l.take k))) ∧ Below w.heap.size w wr ∧ v ≠ .slice none 0 0) (fun _ i _ => n - (intOf i).toNat)
  case atStart => exact ⟨0, Nat.zero_le _, rfl, HOM.out, HBM.out, by simp⟩
  case round =>
  obtain ⟨k, hk, rfl, hown, hbel, hnn⟩ := hrel
  have HO := Lib.hid hown
  have HB := Lib.hid hbel
  have HNN := Lib.hid hnn
  clear hown hbel hnn
  by_cases hlt : k < n
  · obtain ⟨g, off, p, rfl, hp, hc1, hc2⟩ := HA.out.at_ hlt
    have hd1 := (HB.out.cell (lt_of_cell hc1)).trans hc1
    have hd2 := (HB.out.cell (lt_of_cell hc2)).trans hc2
    have HP := Lib.hid hp
    have hwp := hw p (List.mem_of_getElem? hp)
    obtain ⟨p1, p2⟩ := p
    clear hp hc1 hc2
    have hcl0 : Hid (clip (p1, p2) = (max p1 (-1073741824), min p2 1073741824)) := rfl
    obtain ⟨a, hma⟩ : ∃ a, max p1 (-1073741824) = a := ⟨_, rfl⟩
    obtain ⟨b, hmb⟩ : ∃ b, min p2 1073741824 = b := ⟨_, rfl⟩
    have hcl : Hid (clip (p1, p2) = (a, b)) := by unfold Hid; rw [hcl0.out, hma, hmb]
    clear hcl0
    obtain ⟨av, cv, hv⟩ := own_shape HO.out
    subst hv
    have hlc : Hid ((clips (l.take k)).length ≤ k) := by
      have := clips_length (l.take k)
      have h2 : (l.take k).length ≤ k := by simp; omega
      exact Nat.le_trans this h2
    by_cases hab : a ≤ b
    · go_wp2_with (at_builtin; go_must (refine wpList_push rfl _ _ 26 rfl w.heap.size 52 i0 _ 2 16 Try.underlying26 hi hz0 hz1 hz2 rfl (by decide) (HO.out.alloc (.cells #[.int .i64 a, .int .i64 b] 52)) rfl [.int .i64 a, .int .i64 b] _ (by first | rfl | (simp; rfl) | simp) rfl (one2 rfl rfl) (by have := hlc.out; omega) (by omega) (by have := HB.out.size; simp; omega) ?_); intro v' w2 hown2 hg2 hnil)
      refine ⟨⟨k + 1, by omega, by go_num, ?_, below_pushed (HB.out.alloc HB.out.size _) (HO.out.alloc _) (Nat.le_refl _) (by have := HB.out.size; simp; omega) hg2, ?_⟩, by simp [intOf]; omega⟩
      · have e : clips (l.take (k + 1)) = clips (l.take k) ++ [(a, b)] := by
          rw [take_snoc? HP.out, clips_append]
          simp only [clips, hcl.out]
          rw [if_pos hab]
        rw [e, spanCells_append, List.length_append]
        exact hown2
      · intro e
        have := (hnil.1 e).1
        exact HNN.out this
    · go_wp2_with fail
      refine ⟨⟨k + 1, by omega, by go_num, ?_, HB.out.alloc HB.out.size _, HNN.out⟩, by simp [intOf]; omega⟩
      have e : clips (l.take (k + 1)) = clips (l.take k) := by
        rw [take_snoc? HP.out, clips_append]
        simp only [clips, hcl.out]
        rw [if_neg hab, List.append_nil]
      rw [e]
      exact HO.out.alloc _
  · have hd : decide (k < n) = false := by simpa using hlt
    obtain rfl : k = n := by omega
    have et : l.take k = l := List.take_of_length_le (by rw [HL.out]; exact Nat.le_refl _)
    rw [et] at HO
    have hlc : Hid ((clips l).length ≤ k) := by have := clips_length l; rw [HL.out] at this; exact this
    clear et
    obtain ⟨av, cv, hv⟩ := own_shape HO.out
    subst hv
    obtain ⟨g, rfl, hbg⟩ : ∃ g, av = some ⟨g, 0, none⟩ ∧ w.heap.size ≤ g := by
      rcases HO.out.2 with ⟨e, _⟩ | ⟨g, cap, cur, e, hb, _⟩
      · exact absurd e HNN.out
      · injection e with e1
        exact ⟨g, e1, hb⟩
    have HS := Lib.hid (SortSpans_any w.heap.size g cv (clips l) wr HO.out (by have := hlc.out; omega))
    clear HO HNN
    go_wp2_with (go_at_call 63; refine HS.out.mono ?_; rintro e ws ⟨rfl, ls, hlen, hperm, hsort, hows, hgs⟩; have HLEN := Lib.hid hlen; have HPERM := Lib.hid hperm; have HSORT := Lib.hid hsort; have HOWS := Lib.hid hows; have HGS := Lib.hid hgs; clear hlen hperm hsort hows hgs)
    have HSRT : Hid (Srt ls) := Lib.hid ⟨HSORT.out, fun p hp => clips_mem (HPERM.out.mem_iff.1 hp)⟩
    clear HSORT
    generalize (clips l).length = N at *
    have HBS := Lib.hid ((HB.out).grown HGS.out HB.out.size (fun j hj => by cases hj; exact hbg))
    clear HB HGS HS
    go_loopw [6, 43] (fun v i wr => ∃ (i' : Nat) (o J : List Sp), i' ≤ N ∧ i = .int .i64 i' ∧ v = .slice (some ⟨g, 0, none⟩) o.length cv ∧ wr.ownsRow w.heap.size 52 2 (.slice (some ⟨g, 0, none⟩) N cv) N (spanCells (o ++ J ++ ls.drop i')) ∧ Hid (o.length + J.length = i') ∧ Below w.heap.size w wr ∧ Hid (NInv ls i' o)) (fun _ i _ => N - (intOf i).toNat)
    case atStart => exact ⟨0, [], [], Nat.zero_le _, rfl, rfl, by simpa using HOWS.out, Lib.hid (by simp), HBS.out, Lib.hid (NInv.start ls)⟩
    case round =>
    obtain ⟨i, o, J, hiN, rfl, rfl, hown, HJ, hbel, HI⟩ := hrel
    have HO := Lib.hid hown
    have HB := Lib.hid hbel
    clear hown hbel
    have hNk : N ≤ k := hlc.out
    by_cases hlt2 : i < N
    · obtain ⟨x, hx⟩ : ∃ x, ls[i]? = some x := ⟨_, List.getElem?_eq_getElem (by have := HLEN.out; omega)⟩
      have HX := Lib.hid hx
      obtain ⟨x1, x2⟩ := x
      have hcx := spanCells_at _ _ _ (row_at o J ls i _ hx HJ.out)
      have hd1 : wr.cell? ⟨g, i * 2, none⟩ = some (.int .i64 x1) := by rw [HO.out.cellAt _ (by omega)]; exact hcx.1
      have hd2 : wr.cell? ⟨g, i * 2 + 1, none⟩ = some (.int .i64 x2) := by rw [HO.out.cellAt _ (by omega)]; exact hcx.2
      have hg0 : g < wr.heap.size := lt_of_cell hd1
      have HOA := Lib.hid (HO.out.alloc (.cells #[.int .i64 x1, .int .i64 x2] 52))
      have HBA := Lib.hid (HB.out.alloc HB.out.size (.cells #[.int .i64 x1, .int .i64 x2] 52))
      have hoi : Hid (o.length ≤ i) := Lib.hid (by have := HJ.out; omega)
      clear hx hcx
      rcases snoc_cases o with rfl | ⟨m, q, rfl⟩
      · have HIN := Lib.hid (HI.out.push HSRT.out HX.out (fun m q e => by simp at e))
        go_wp2_with (first | go_quiet (fail) | (at_builtin; go_must (refine wpList_room rfl _ _ 26 rfl w.heap.size 52 i0 Try.underlying26 hi hz1 (ownsRow_drewN HOA.out _) (k := 0) (by omega) rfl (x1, x2) _ (by first | rfl | (simp; rfl) | simp) ?_); intro w2 hown2 hg2))
        have HO2 := Lib.hid hown2
        have HB2 := Lib.hid (((below_drewN HBA.out _).alloc (by have := HBA.out.size; simpa using this) _).grown hg2 (by have := HBA.out.size; simp at *; omega) (fun j hj => by cases hj; exact hbg))
        clear hown2 hg2
        go_wp2_with fail
        go_roundw
        case rel =>
          obtain ⟨J', e1, e2⟩ := room_push [] J ls i _ HX.out HJ.out
          refine ⟨i + 1, [] ++ [(x1, x2)], J', by omega, by go_num, by simp, ?_, Lib.hid e2, HB2.out, HIN.out⟩
          rw [← e1]
          exact HO2.out
        case measure => simp [intOf]; omega
      · have hqb := PlainF.last HI.out.plain
        have hqr : -1073741824 ≤ q.2 ∧ q.2 ≤ 1073741824 := by omega
        have hm1 : m.length + 1 ≤ i := by have := hoi.out; simpa using this
        obtain ⟨q1, q2⟩ := q
        simp only at hqr
        have hq := (spanCells_at _ _ _ (row_last m J ls (q1, q2) i)).2
        have hd3 : (wr.alloc (.cells #[.int .i64 x1, .int .i64 x2] 52)).cell? ⟨g, m.length * 2 + 1, none⟩ = some (.int .i64 q2) := by rw [HOA.out.cellAt _ (by omega)]; exact hq
        have HLEN1 : Hid ((m ++ [(q1, q2)]).length = m.length + 1) := by unfold Hid; simp
        have hxr := HSRT.out.2 _ (List.mem_of_getElem? HX.out)
        simp only at hxr
        rw [HLEN1.out]
        clear hqb hq
        by_cases hjn : x1 ≤ q2 + 1
        · obtain ⟨z, hz⟩ : ∃ z, max q2 x2 = z := ⟨_, rfl⟩
          have HIN := Lib.hid (HI.out.merge HSRT.out HX.out hjn)
          have hqf := HOA.out.frozenAt (m.length * 2 + 1)
          have HST := Lib.hid (HOA.out.stored (m.length * 2 + 1) (.int .i64 z)).1
          go_wp2_with (go_quiet (fail))
          go_region
          go_wp2_with fail
          go_roundw
          case rel =>
            obtain ⟨J', e1, e2⟩ := room_merge m J ls (q1, q2) i _ z HX.out HJ.out
            refine ⟨i + 1, m ++ [(q1, z)], J', by omega, by go_num, by simp, ?_, Lib.hid e2, (below_drewN HBA.out _).setCell hbg _, by rw [← hz]; exact HIN.out⟩
            rw [← e1]
            exact HST.out
          case measure => simp [intOf]; omega
        · have HIN := Lib.hid (HI.out.push HSRT.out HX.out (fun m' q' e => by
            have := List.append_inj_right' e rfl
            simp at this
            rw [← this]; simp only; omega))
          go_wp2_with (first | go_quiet (fail) | (at_builtin; go_must (refine wpList_room rfl _ _ 26 rfl w.heap.size 52 i0 Try.underlying26 hi hz1 (ownsRow_drewN HOA.out _) (k := m.length + 1) (by omega) rfl (x1, x2) _ (by first | rfl | (simp; rfl) | simp) ?_); intro w2 hown2 hg2))
          have HO2 := Lib.hid hown2
          have HB2 := Lib.hid (((below_drewN HBA.out _).alloc (by have := HBA.out.size; simpa using this) _).grown hg2 (by have := HBA.out.size; simp at *; omega) (fun j hj => by cases hj; exact hbg))
          clear hown2 hg2
          go_wp2_with fail
          go_roundw
          case rel =>
            obtain ⟨J', e1, e2⟩ := room_push (m ++ [(q1, q2)]) J ls i _ HX.out HJ.out
            refine ⟨i + 1, (m ++ [(q1, q2)]) ++ [(x1, x2)], J', by omega, by go_num, by simp, ?_, Lib.hid e2, HB2.out, HIN.out⟩
            rw [← e1, HLEN1.out]
            exact HO2.out
          case measure => simp [intOf]; omega
    · have hd : decide (i < N) = false := by simpa using hlt2
      obtain rfl : i = N := by omega
      go_wp2_with fail
      go_ret
      have e : i = ls.length := HLEN.out.symm
      refine ⟨o, ⟨_, rfl, by simp, own_cut HO.out (by have := HJ.out; omega) ?_, HB.out⟩, (e ▸ HI.out).rep HPERM.out, by have := HJ.out; have := hlc.out; omega⟩
      rw [List.append_assoc, List.take_left']
      rfl
end Go.Proofs.Ytpmhdjiacgckjaa
end
section
namespace Go.Proofs.Ytpmhdjiacgckjaa
open Go.RowKit
set_option linter.unusedVariables false

structure MtInv (r s p q o : List Sp) : Prop where
  pl : ∃ a, -1073741826 ≤ a ∧ PlainF a p
  ql : ∃ a, -1073741826 ≤ a ∧ PlainF a q
  plain : Plain o
  same : ∀ x, (InS o x ∨ (InS p x ∧ InS q x)) ↔ (InS r x ∧ InS s x)
  sep : ∀ t ∈ o, ∀ x, InS p x → InS q x → t.2 + 1 < x
theorem MtInv.start {r s : List Sp} (hr : Plain r) (hs : Plain s) : MtInv r s r s [] := ⟨⟨_, Int.le_refl _, hr⟩, ⟨_, Int.le_refl _, hs⟩, trivial, fun x => by simp [InS], by simp⟩
theorem MtInv.rep {r s p q o : List Sp} {S T : Int → Prop} (h : MtInv r s p q o) (he : p = [] ∨ q = []) (hr : Rep r S) (hs : Rep s T) : Rep o (fun x => S x ∧ T x) := by
  refine ⟨h.plain, fun x => ?_⟩
  have := h.same x
  rw [hr.2, hs.2] at this
  show InS o x ↔ (S x ∧ T x)
  rw [← this]
  rcases he with rfl | rfl <;> simp [InS]
/-- what two first spans have in common -/
def both (x y : Sp) : List Sp := if max x.1 y.1 ≤ min x.2 y.2 then [(max x.1 y.1, min x.2 y.2)] else []
theorem both_InS (x y : Sp) (z : Int) : InS (both x y) z ↔ (x.1 ≤ z ∧ z ≤ x.2) ∧ (y.1 ≤ z ∧ z ≤ y.2) := by
  unfold both
  split
  · simp only [InS, or_false]; omega
  · rename_i h; simp only [InS, false_iff]; omega
theorem both_mem {x y t : Sp} (h : t ∈ both x y) : t = (max x.1 y.1, min x.2 y.2) ∧ max x.1 y.1 ≤ min x.2 y.2 := by
  unfold both at h
  split at h
  · rename_i g; simp at h; exact ⟨h, g⟩
  · cases h
theorem MtInv.left {r s p q o : List Sp} {x y : Sp} (h : MtInv r s (x :: p) (y :: q) o) (hc : x.2 < y.2) : MtInv r s p (y :: q) (o ++ both x y) := by
  obtain ⟨a, ha, h1, h2, h3, h4⟩ := h.pl
  obtain ⟨b, hb, g1, g2, g3, g4⟩ := h.ql
  refine ⟨⟨x.2, by omega, h4⟩, ⟨b, hb, g1, g2, g3, g4⟩, ?_, fun z => ?_, ?_⟩
  · unfold both
    split
    · rename_i hm
      refine PlainF.snoc h.plain (by simp only; omega) (fun t ht => ?_) hm (by simp only; omega)
      exact h.sep t ht _ (.inl ⟨by simp only; omega, by simp only; omega⟩) (.inl ⟨by simp only; omega, by simp only; omega⟩)
    · rw [List.append_nil]; exact h.plain
  · rw [← h.same z, InS_append, both_InS]
    constructor
    · rintro ((e | e) | e)
      · exact .inl e
      · exact .inr ⟨.inl e.1, .inl e.2⟩
      · exact .inr ⟨.inr e.1, e.2⟩
    · rintro (e | ⟨e1 | e1, e2⟩)
      · exact .inl (.inl e)
      · rcases e2 with e2 | e2
        · exact .inl (.inr ⟨e1, e2⟩)
        · have := g4.low e2; omega
      · exact .inr ⟨e1, e2⟩
  · intro t ht z hp hq
    rcases List.mem_append.1 ht with ht | ht
    · exact h.sep t ht z (.inr hp) hq
    · obtain ⟨rfl, _⟩ := both_mem ht
      have := h4.low hp
      simp only; omega
theorem MtInv.right {r s p q o : List Sp} {x y : Sp} (h : MtInv r s (x :: p) (y :: q) o) (hc : ¬ x.2 < y.2) : MtInv r s (x :: p) q (o ++ both x y) := by
  obtain ⟨a, ha, h1, h2, h3, h4⟩ := h.pl
  obtain ⟨b, hb, g1, g2, g3, g4⟩ := h.ql
  refine ⟨⟨a, ha, h1, h2, h3, h4⟩, ⟨y.2, by omega, g4⟩, ?_, fun z => ?_, ?_⟩
  · unfold both
    split
    · rename_i hm
      refine PlainF.snoc h.plain (by simp only; omega) (fun t ht => ?_) hm (by simp only; omega)
      exact h.sep t ht _ (.inl ⟨by simp only; omega, by simp only; omega⟩) (.inl ⟨by simp only; omega, by simp only; omega⟩)
    · rw [List.append_nil]; exact h.plain
  · rw [← h.same z, InS_append, both_InS]
    constructor
    · rintro ((e | e) | e)
      · exact .inl e
      · exact .inr ⟨.inl e.1, .inl e.2⟩
      · exact .inr ⟨e.1, .inr e.2⟩
    · rintro (e | ⟨e1, e2 | e2⟩)
      · exact .inl (.inl e)
      · rcases e1 with e1 | e1
        · exact .inl (.inr ⟨e1, e2⟩)
        · have := h4.low e1; omega
      · exact .inr ⟨e1, e2⟩
  · intro t ht z hp hq
    rcases List.mem_append.1 ht with ht | ht
    · exact h.sep t ht z hp (.inr hq)
    · obtain ⟨rfl, _⟩ := both_mem ht
      have := g4.low hq
      simp only; omega
theorem both_length (x y : Sp) : (both x y).length ≤ 1 := by unfold both; split <;> simp

/-- between the first k spans -/
structure NgInv (r : List Sp) (k : Nat) (f : Int) (o : List Sp) : Prop where
  same : ∀ z, InS o z ↔ (-1073741824 ≤ z ∧ z < f ∧ ¬ InS (r.take k) z)
  low : ∀ z, InS (r.take k) z → z < f
  rest : PlainF (f - 1) (r.drop k) ∨ (k = 0 ∧ f = -1073741824 ∧ Plain r)
  bound : -1073741824 ≤ f ∧ f ≤ 1073741825
  len : o.length = k
  word : ∀ p ∈ o, (-1073741826 ≤ p.1 ∧ p.1 ≤ 1073741825) ∧ (-1073741826 ≤ p.2 ∧ p.2 ≤ 1073741825)
theorem NgInv.start {r : List Sp} (h : Plain r) : NgInv r 0 (-1073741824) [] := by
  refine ⟨fun z => ?_, by simp [InS], .inr ⟨rfl, rfl, h⟩, by omega, rfl, by simp⟩
  simp only [InS, List.take_zero, not_false_eq_true, and_true, false_iff]; omega
theorem NgInv.head {r o : List Sp} {k : Nat} {f : Int} {x : Sp} (h : NgInv r k f o) (hx : r[k]? = some x) : f ≤ x.1 ∧ x.1 ≤ x.2 ∧ x.2 ≤ 1073741824 ∧ PlainF x.2 (r.drop (k + 1)) := by
  rcases h.rest with g | ⟨rfl, rfl, g⟩
  · rw [drop_cons? hx] at g
    obtain ⟨a1, a2, a3, a4⟩ := g
    exact ⟨by omega, a2, a3, a4⟩
  · have e := drop_cons? hx
    rw [List.drop_zero] at e
    rw [e] at g
    obtain ⟨a1, a2, a3, a4⟩ := g
    exact ⟨by omega, a2, a3, a4⟩
theorem NgInv.step {r o : List Sp} {k : Nat} {f : Int} {x : Sp} (h : NgInv r k f o) (hx : r[k]? = some x) : NgInv r (k + 1) (x.2 + 1) (o ++ [(f, x.1 - 1)]) := by
  obtain ⟨h1, h2, h3, h4⟩ := h.head hx
  have hb := h.bound
  refine ⟨fun z => ?_, fun z hz => ?_, .inl ?_, by omega, by simp [h.len], ?_⟩
  · rw [InS_append, h.same, take_snoc? hx, InS_append]
    simp only [InS, or_false]
    have hl := h.low z
    constructor
    · rintro (⟨e1, e2, e3⟩ | ⟨e1, e2⟩)
      · exact ⟨e1, by omega, by rintro (g | g); exact e3 g; omega⟩
      · exact ⟨by omega, by omega, by rintro (g | g); have := hl g; omega; omega⟩
    · rintro ⟨e1, e2, e3⟩
      by_cases g : z < f
      · exact .inl ⟨e1, g, fun g' => e3 (.inl g')⟩
      · exact .inr ⟨by omega, by
          have : ¬ (x.1 ≤ z ∧ z ≤ x.2) := fun g' => e3 (.inr g')
          omega⟩
  · rw [take_snoc? hx, InS_append] at hz
    simp only [InS, or_false] at hz
    rcases hz with g | g
    · have := h.low z g; omega
    · omega
  · rw [Int.add_sub_cancel]; exact h4
  · intro p hp
    rcases List.mem_append.1 hp with hp | hp
    · exact h.word p hp
    · simp at hp; subst hp; simp only; omega
theorem NgInv.done {r o : List Sp} {f : Int} {S : Int → Prop} (h : NgInv r r.length f o) (hr : Rep r S) : (∀ z, Mem (o ++ [(f, 1073741824)]) z ↔ (-1073741824 ≤ z ∧ z ≤ 1073741824 ∧ ¬ S z)) ∧ SpW (o ++ [(f, 1073741824)]) := by
  have hb := h.bound
  refine ⟨fun z => ?_, ?_⟩
  · unfold Mem
    have hs := h.same z
    have hl := h.low z
    rw [List.take_length] at hs hl
    rw [InS_append, hs, ← hr.2]
    simp only [InS, or_false]
    constructor
    · rintro ⟨e1, e2, (e3 | e3)⟩
      · exact ⟨e1, e2, e3.2.2⟩
      · exact ⟨e1, e2, fun g => by have := hl g; omega⟩
    · rintro ⟨e1, e2, e3⟩
      by_cases g : z < f
      · exact ⟨e1, e2, .inl ⟨e1, g, e3⟩⟩
      · exact ⟨e1, e2, .inr ⟨by omega, by omega⟩⟩
  · intro p hp
    rcases List.mem_append.1 hp with hp | hp
    · have := h.word p hp; omega
    · simp at hp; subst hp; simp only; omega
theorem cnt_nil : cnt [] = 0 := rfl
theorem cnt_cons (p : Sp) (l : List Sp) : cnt (p :: l) = p.2 - p.1 + 1 + cnt l := by simp [cnt]
theorem cnt_append (l m : List Sp) : cnt (l ++ m) = cnt l + cnt m := by simp [cnt]
theorem PlainF.cnt_le {a : Int} {l : List Sp} (h : PlainF a l) (ha : a ≤ 1073741824) : 0 ≤ cnt l ∧ cnt l ≤ 1073741824 - a := by
  induction l generalizing a with
  | nil => rw [cnt_nil]; omega
  | cons p l ih =>
    obtain ⟨h1, h2, h3, h4⟩ := h
    have := ih h4 h3
    rw [cnt_cons]; omega
theorem Plain.cnt_take {l : List Sp} (h : Plain l) (k : Nat) : 0 ≤ cnt (l.take k) ∧ cnt (l.take k) ≤ 2147483650 := by
  have h1 : PlainF (-1073741826) (l.take k) := by
    have : PlainF (-1073741826) (l.take k ++ l.drop k) := by rw [List.take_append_drop]; exact h
    exact PlainF.init this
  have := PlainF.cnt_le h1 (by omega)
  omega
end Go.Proofs.Ytpmhdjiacgckjaa
end
section
namespace Go.Proofs.Ytpmhdjiacgckjaa
open Go.RowKit
set_option linter.unusedVariables false

/-- a call that returns a list, in a row of its own, or nil -/
def OwnList (w : World) (base : Nat) (r : List Sp) (e : Ending) (w' : World) : Prop := ∃ v, e = .returned v ∧ w'.ownsRow base 52 2 v r.length (spanCells r) ∧ Below base w w'
theorem OwnRep.shape {w w' : World} {base : Nat} {r : List Sp} {e : Ending} (h : OwnRep w base r e w') : ∃ g cap, e = .returned (.slice (some ⟨g, 0, none⟩) r.length cap) ∧ base ≤ g ∧ r.length ≤ cap ∧ cap ≤ maxLen ∧ w'.ownsRow base 52 2 (.slice (some ⟨g, 0, none⟩) r.length cap) r.length (spanCells r) ∧ Below base w w' := by
  obtain ⟨v, rfl, hv, ho, hb⟩ := h
  rcases id ho.2 with ⟨e0, _⟩ | ⟨g, cap, cur, rfl, h1, h2, h3, h4, _⟩
  · exact absurd e0 hv
  · exact ⟨g, cap, rfl, h1, h3, h4, ho, hb⟩

theorem own_base {w : World} {base base' : Nat} {e : TypeId} {size : Nat} {v : Value} {n : Nat} {xs : List Value} (h : w.ownsRow base e size v n xs) (hb : base' ≤ base) : w.ownsRow base' e size v n xs := by
  refine ⟨h.1, ?_⟩
  rcases h.2 with h0 | ⟨g, cap, cur, rfl, h1, h2⟩
  · exact .inl h0
  · exact .inr ⟨g, cap, cur, rfl, by omega, h2⟩

set_option maxRecDepth 100000 in
set_option maxHeartbeats 16000000 in
theorem Meet_any (A B : Option Addr) (n c m d : Nat) (a b : List Sp) (w : World) (h : Spans w A n a) (h' : Spans w B m b) (hw : SpW a) (hw' : SpW b) (hn : n < 274877906944) (hm : m < 274877906944) :
    Calls Try.prog 30 #[.slice A n c, .slice B m d] w fun e w' => ∃ r, OwnList w w.heap.size r e w' ∧ Rep r (fun x => Mem a x ∧ Mem b x) ∧ r.length ≤ n + m := by
  obtain ⟨i0, hi, hz0, hz1, hz2⟩ := info_parts info59
  have HN := Lib.hid (Norm_any A n c a w h hw (by omega))
  have HB := Lib.hid h'
  go_enter Try.func30, Try.ntmps30
  go_wp2_with fail
  refine HN.out.mono ?_
  rintro e w1 ⟨r, ho, hr, hrl⟩
  obtain ⟨g1, c1, rfl, hg1, hc1, hm1, hrow1, hb1⟩ := ho.shape
  have HN2 := Lib.hid (Norm_any B m d b w1 (HB.out.below hb1) hw' (by omega))
  have HRow1 := Lib.hid hrow1
  have HB1 := Lib.hid hb1
  have HR := Lib.hid hr
  clear ho hrow1 hb1 hr HN h h'
  go_wp2_with fail
  refine HN2.out.mono ?_
  rintro e w2 ⟨s, ho, hs, hsl⟩
  obtain ⟨g2, c2, rfl, hg2, hc2, hm2, hrow2, hb2⟩ := ho.shape
  have HRow2 := Lib.hid hrow2
  have HB2 := Lib.hid hb2
  have HS := Lib.hid hs
  clear ho hrow2 hb2 hs HN2
  go_wp2_with fail
  go_loopw [0, 1, 5] (fun x y v wr => ∃ (i j p q : Nat) (o : List Sp), i ≤ r.length ∧ j ≤ s.length ∧ Hid ((i < r.length → p = i * 2) ∧ (j < s.length → q = j * 2)) ∧ x = .slice (some ⟨g1, p, none⟩) (r.length - i) (c1 - i) ∧ y = .slice (some ⟨g2, q, none⟩) (s.length - j) (c2 - j) ∧ wr.ownsRow w2.heap.size 52 2 v o.length (spanCells o) ∧ Below w2.heap.size w2 wr ∧ Hid (MtInv r s (r.drop i) (s.drop j) o) ∧ o.length ≤ i + j) (fun x y _ _ => match x, y with | .slice _ p _, .slice _ q _ => p + q | _, _ => 0)
  case atStart =>
    refine ⟨0, 0, 0, 0, [], Nat.zero_le _, Nat.zero_le _, Lib.hid (by simp), by simp, by simp, World.ownsRow_nil _ _ _ _, Below.refl _ _, Lib.hid ?_, by simp⟩
    simpa using MtInv.start HR.out.1 HS.out.1
  case round =>
  obtain ⟨i, j, p, q, o, hi1, hj1, HPQ, rfl, rfl, hown, hbel, HI, hol⟩ := hrel
  have HO := Lib.hid hown
  have HBE := Lib.hid hbel
  clear hown hbel
  obtain ⟨av, cv, hv⟩ := own_shape HO.out
  subst hv
  by_cases hir : i < r.length
  · by_cases hjs : j < s.length
    · obtain rfl : p = i * 2 := HPQ.out.1 hir
      obtain rfl : q = j * 2 := HPQ.out.2 hjs
      obtain ⟨x, hx⟩ : ∃ x, r[i]? = some x := ⟨_, List.getElem?_eq_getElem hir⟩
      obtain ⟨y, hy⟩ : ∃ y, s[j]? = some y := ⟨_, List.getElem?_eq_getElem hjs⟩
      have hcx := spanCells_at _ _ _ hx
      have hcy := spanCells_at _ _ _ hy
      obtain ⟨x1, x2⟩ := x
      obtain ⟨y1, y2⟩ := y
      have hlt1 : g1 < w2.heap.size := Nat.lt_of_lt_of_le (HRow1.out.lt g1 rfl).2 HB2.out.size
      have hlt2 : g2 < w2.heap.size := (HRow2.out.lt g2 rfl).2
      have HCE : Hid (∀ W, Below w2.heap.size w2 W → W.cell? ⟨g1, i * 2, none⟩ = some (.int .i64 x1) ∧ W.cell? ⟨g1, i * 2 + 1, none⟩ = some (.int .i64 x2) ∧ W.cell? ⟨g2, j * 2, none⟩ = some (.int .i64 y1) ∧ W.cell? ⟨g2, j * 2 + 1, none⟩ = some (.int .i64 y2)) := by
        intro W hW
        refine ⟨?_, ?_, ?_, ?_⟩
        · rw [hW.cell hlt1, HB2.out.cell (HRow1.out.lt g1 rfl).2, HRow1.out.cellAt _ (by omega)]; exact hcx.1
        · rw [hW.cell hlt1, HB2.out.cell (HRow1.out.lt g1 rfl).2, HRow1.out.cellAt _ (by omega)]; exact hcx.2
        · rw [hW.cell hlt2, HRow2.out.cellAt _ (by omega)]; exact hcy.1
        · rw [hW.cell hlt2, HRow2.out.cellAt _ (by omega)]; exact hcy.2
      obtain ⟨hd1, hd2, hd3, hd4⟩ := HCE.out wr HBE.out
      have HIL := Lib.hid (fun (g : x2 < y2) => MtInv.left (r := r) (s := s) (p := r.drop (i + 1)) (q := s.drop (j + 1)) (o := o) (x := (x1, x2)) (y := (y1, y2)) (by rw [← drop_cons? hx, ← drop_cons? hy]; exact HI.out) g)
      have HIR := Lib.hid (fun (g : ¬ x2 < y2) => MtInv.right (r := r) (s := s) (p := r.drop (i + 1)) (q := s.drop (j + 1)) (o := o) (x := (x1, x2)) (y := (y1, y2)) (by rw [← drop_cons? hx, ← drop_cons? hy]; exact HI.out) g)
      have HX := Lib.hid (drop_cons? hx)
      have HY := Lib.hid (drop_cons? hy)
      have hgw1 := Nat.lt_of_lt_of_le hlt1 HBE.out.size
      have hgw2 := Nat.lt_of_lt_of_le hlt2 HBE.out.size
      obtain ⟨lo, hlo⟩ : ∃ z, max x1 y1 = z := ⟨_, rfl⟩
      obtain ⟨hi', hhi⟩ : ∃ z, min x2 y2 = z := ⟨_, rfl⟩
      have hboth : Hid (both (x1, x2) (y1, y2) = if lo ≤ hi' then [(lo, hi')] else []) := by unfold Hid both; rw [hlo, hhi]
      have hk1 : 0 < r.length - i := by omega
      have hk2 : 0 < s.length - j := by omega
      clear hx hy hcx hcy
      have HBA := Lib.hid ((below_drewN HBE.out 1).alloc HBE.out.size (.cells #[.int .i64 lo, .int .i64 hi'] 52))
      have hol2 : o.length < 1099511627776 := by omega
      go_wp2_with fail
      go_region
      by_cases hlh : lo ≤ hi'
      · have e2 : Hid (both (x1, x2) (y1, y2) = [(lo, hi')]) := by unfold Hid; rw [hboth.out, if_pos hlh]
        by_cases hxy : x2 < y2
        · go_wp2_with (first | go_quiet (fail) | (at_builtin; go_must (refine wpList_push rfl _ _ 26 rfl w2.heap.size 52 i0 _ 2 16 Try.underlying26 hi hz0 hz1 hz2 rfl (by decide) ((ownsRow_drewN HO.out 1).alloc _) rfl [.int .i64 lo, .int .i64 hi'] _ (by first | rfl | (simp; rfl) | simp) rfl (one2 rfl rfl) (by omega) (by omega) (by have := HBE.out.size; simp; omega) ?_); intro v' w3 hown3 hg3 _))
          have HO3 := Lib.hid hown3
          have HB3 := Lib.hid (below_pushed HBA.out ((ownsRow_drewN HO.out 1).alloc _) (Nat.le_refl _) (by have := HBE.out.size; simp; omega) hg3)
          clear hown3 hg3
          obtain ⟨_, hf2, _, hf4⟩ := HCE.out w3 HB3.out
          go_wp2_with (go_quiet (fail))
          refine ⟨⟨i + 1, j, if c1 - i = 1 then i * 2 else i * 2 + 2, j * 2, o ++ [(lo, hi')], by omega, by omega, Lib.hid ⟨fun g => by rw [if_neg (by omega)]; omega, fun _ => rfl⟩, by split <;> simp <;> omega, rfl, by rw [spanCells_append, List.length_append]; exact HO3.out, below_drewN HB3.out _, Lib.hid ?_, by simp; omega⟩, by simp only []; omega⟩
          have := HIL.out hxy
          rw [e2.out] at this
          rw [HY.out]
          exact this
        · go_wp2_with (first | go_quiet (fail) | (at_builtin; go_must (refine wpList_push rfl _ _ 26 rfl w2.heap.size 52 i0 _ 2 16 Try.underlying26 hi hz0 hz1 hz2 rfl (by decide) ((ownsRow_drewN HO.out 1).alloc _) rfl [.int .i64 lo, .int .i64 hi'] _ (by first | rfl | (simp; rfl) | simp) rfl (one2 rfl rfl) (by omega) (by omega) (by have := HBE.out.size; simp; omega) ?_); intro v' w3 hown3 hg3 _))
          have HO3 := Lib.hid hown3
          have HB3 := Lib.hid (below_pushed HBA.out ((ownsRow_drewN HO.out 1).alloc _) (Nat.le_refl _) (by have := HBE.out.size; simp; omega) hg3)
          clear hown3 hg3
          obtain ⟨_, hf2, _, hf4⟩ := HCE.out w3 HB3.out
          go_wp2_with (go_quiet (fail))
          refine ⟨⟨i, j + 1, i * 2, if c2 - j = 1 then j * 2 else j * 2 + 2, o ++ [(lo, hi')], by omega, by omega, Lib.hid ⟨fun _ => rfl, fun g => by rw [if_neg (by omega)]; omega⟩, rfl, by split <;> simp <;> omega, by rw [spanCells_append, List.length_append]; exact HO3.out, below_drewN HB3.out _, Lib.hid ?_, by simp; omega⟩, by simp only []; omega⟩
          have := HIR.out (by omega)
          rw [e2.out] at this
          rw [HX.out]
          exact this
      · have e2 : Hid (both (x1, x2) (y1, y2) = []) := by unfold Hid; rw [hboth.out, if_neg hlh]
        by_cases hxy : x2 < y2
        · obtain ⟨_, hf2, _, hf4⟩ := HCE.out _ HBA.out
          go_wp2_with (go_quiet (fail))
          refine ⟨⟨i + 1, j, if c1 - i = 1 then i * 2 else i * 2 + 2, j * 2, o, by omega, by omega, Lib.hid ⟨fun g => by rw [if_neg (by omega)]; omega, fun _ => rfl⟩, by split <;> simp <;> omega, rfl, ((ownsRow_drewN HO.out 1).alloc _), below_drewN (HBE.out.alloc HBE.out.size _) _, Lib.hid ?_, by omega⟩, by simp only []; omega⟩
          have := HIL.out hxy
          rw [e2.out, List.append_nil] at this
          rw [HY.out]
          exact this
        · obtain ⟨_, hf2, _, hf4⟩ := HCE.out _ HBA.out
          go_wp2_with (go_quiet (fail))
          refine ⟨⟨i, j + 1, i * 2, if c2 - j = 1 then j * 2 else j * 2 + 2, o, by omega, by omega, Lib.hid ⟨fun _ => rfl, fun g => by rw [if_neg (by omega)]; omega⟩, rfl, by split <;> simp <;> omega, ((ownsRow_drewN HO.out 1).alloc _), below_drewN (HBE.out.alloc HBE.out.size _) _, Lib.hid ?_, by omega⟩, by simp only []; omega⟩
          have := HIR.out (by omega)
          rw [e2.out, List.append_nil] at this
          rw [HX.out]
          exact this
    · have hk1 : 0 < r.length - i := by omega
      have hk2 : decide (0 < s.length - j) = false := by simp; omega
      go_wp2_with fail
      go_ret
      exact ⟨o, ⟨_, rfl, own_base HO.out (by have := HB1.out.size; have := HB2.out.size; omega), below_to HB1.out (below_to HB2.out HBE.out)⟩, HI.out.rep (.inr (List.drop_eq_nil_of_le (by omega))) HR.out HS.out, by omega⟩
  · have hk1 : decide (0 < r.length - i) = false := by simp; omega
    go_wp2_with fail
    go_ret
    exact ⟨o, ⟨_, rfl, own_base HO.out (by have := HB1.out.size; have := HB2.out.size; omega), below_to HB1.out (below_to HB2.out HBE.out)⟩, HI.out.rep (.inl (List.drop_eq_nil_of_le (by omega))) HR.out HS.out, by omega⟩
end Go.Proofs.Ytpmhdjiacgckjaa
end
section
namespace Go.Proofs.Ytpmhdjiacgckjaa
open Go.RowKit
set_option linter.unusedVariables false

theorem PlainF.mem {a : Int} {l : List Sp} (h : PlainF a l) {p : Sp} (hp : p ∈ l) : a + 1 < p.1 ∧ p.1 ≤ p.2 ∧ p.2 ≤ 1073741824 := by
  induction l generalizing a with
  | nil => cases hp
  | cons q l ih =>
    obtain ⟨h1, h2, h3, h4⟩ := h
    rcases List.mem_cons.1 hp with rfl | hp
    · exact ⟨h1, h2, h3⟩
    · have := ih h4 hp; omega
theorem of_ownList {w w' : World} {base : Nat} {r : List Sp} {e : Ending} (h : OwnList w base r e w') : ∃ A c, e = .returned (.slice A r.length c) ∧ r.length ≤ c ∧ c ≤ maxLen ∧ Spans w' A r.length r ∧ Below base w w' := by
  obtain ⟨v, rfl, ho, hb⟩ := h
  rcases id ho with ⟨h1, ⟨rfl, h0⟩ | ⟨g, cap, cur, rfl, _, _, hn, hc, _⟩⟩
  · have e0 : r = [] := List.length_eq_zero_iff.1 h0
    subst e0
    exact ⟨none, 0, rfl, by simp, by simp, Sl.of_own ho, hb⟩
  · exact ⟨_, cap, rfl, hn, hc, Sl.of_own ho, hb⟩

set_option maxRecDepth 100000 in
set_option maxHeartbeats 16000000 in
theorem Minus_any (A B : Option Addr) (n c m d : Nat) (a b : List Sp) (w : World) (h : Spans w A n a) (h' : Spans w B m b) (hw : SpW a) (hw' : SpW b) (hn : n < 137438953472) (hm : m < 137438953472) :
    Calls Try.prog 25 #[.slice A n c, .slice B m d] w fun e w' => ∃ r, OwnList w w.heap.size r e w' ∧ Rep r (fun x => Mem a x ∧ ¬ Mem b x) ∧ r.length ≤ n + m + 1 := by
  obtain ⟨i0, hi, hz0, hz1, hz2⟩ := info_parts info59
  have HN := Lib.hid (Norm_any B m d b w h' hw' (by omega))
  have HA := Lib.hid h
  clear h h'
  go_enter Try.func25, Try.ntmps25
  go_wp2_with fail
  refine HN.out.mono ?_
  rintro e w1 ⟨r, ho, hr, hrl⟩
  obtain ⟨g1, c1, rfl, hg1, hc1, hm1, hrow1, hb1⟩ := ho.shape
  have HRow1 := Lib.hid hrow1
  have HB1 := Lib.hid hb1
  have HR := Lib.hid hr
  clear ho hrow1 hb1 hr HN
  go_wp2_with fail
  go_loopw [5, 6, 12] (fun v f i wr => ∃ (k : Nat) (f' : Int) (o : List Sp), k ≤ r.length ∧ i = .int .i64 k ∧ f = .int .i64 f' ∧ wr.ownsRow w1.heap.size 52 2 v o.length (spanCells o) ∧ Below w1.heap.size w1 wr ∧ Hid (NgInv r k f' o)) (fun _ _ i _ => r.length - (intOf i).toNat)
  case atStart => exact ⟨0, -1073741824, [], Nat.zero_le _, rfl, rfl, World.ownsRow_nil _ _ _ _, Below.refl _ _, NgInv.start HR.out.1⟩
  case round =>
  obtain ⟨k, f, o, hk, rfl, rfl, hown, hbel, HI⟩ := hrel
  have HO := Lib.hid hown
  have HBE := Lib.hid hbel
  clear hown hbel
  obtain ⟨av, cv, hv⟩ := own_shape HO.out
  subst hv
  have hlk := HI.out.len
  have hfb := HI.out.bound
  by_cases hlt : k < r.length
  · obtain ⟨x, hx⟩ : ∃ x, r[k]? = some x := ⟨_, List.getElem?_eq_getElem hlt⟩
    obtain ⟨x1, x2⟩ := x
    have hxb := HI.out.head hx
    have hx1 : -1073741824 ≤ x1 ∧ x1 ≤ x2 ∧ x2 ≤ 1073741824 := ⟨by have := hxb.1; simp only at this; omega, hxb.2.1, hxb.2.2.1⟩
    have hcx := spanCells_at _ _ _ hx
    have hlt1 : g1 < w1.heap.size := (HRow1.out.lt g1 rfl).2
    have hd1 : wr.cell? ⟨g1, k * 2, none⟩ = some (.int .i64 x1) := by rw [HBE.out.cell hlt1, HRow1.out.cellAt _ (by omega)]; exact hcx.1
    have hd2 : wr.cell? ⟨g1, k * 2 + 1, none⟩ = some (.int .i64 x2) := by rw [HBE.out.cell hlt1, HRow1.out.cellAt _ (by omega)]; exact hcx.2
    have HIN := Lib.hid (HI.out.step hx)
    clear hx hcx hxb
    go_wp2_with (
        at_builtin
        go_must (refine wpList_push rfl _ _ 26 rfl w1.heap.size 52 i0 _ 2 16 Try.underlying26 hi hz0 hz1 hz2 rfl (by decide) (HO.out.alloc (.cells #[.int .i64 x1, .int .i64 x2] 52)) rfl [.int .i64 f, .int .i64 (x1 - 1)] _ (by first | rfl | (simp; rfl) | simp) rfl (one2 rfl rfl) (by omega) (by omega) (by have := HBE.out.size; simp; omega) ?_)
        intro v' w2 hown2 hg2 _
        have HO2 := Lib.hid hown2
        have HB2 := Lib.hid (below_pushed (HBE.out.alloc HBE.out.size _) (HO.out.alloc _) (Nat.le_refl _) (by have := HBE.out.size; simp; omega) hg2)
        have hbx := World.cell?_of_block (w := wr.alloc (.cells #[.int .i64 x1, .int .i64 x2] 52)) (w' := w2) (a := ⟨wr.heap.size, 1, none⟩)
          ((hg2.block wr.heap.size (by simp; omega) (by
            intro e
            have := (HO.out.lt wr.heap.size (by simpa [Value.ownBlock] using e.symm)).2
            omega)).trans (by first | exact heap_alloc_old _ _ (by simp) | exact Go.heap_alloc_old _ _ _ (by simp)))
        have hd3 : w2.cell? ⟨wr.heap.size, 1, none⟩ = some (.int .i64 x2) := by
          have hnew := heap_alloc_new wr (.cells #[.int .i64 x1, .int .i64 x2] 52)
          rw [hbx]
          simp only [World.cell?, hnew]
          rfl
        clear hown2 hg2 hbx)
    refine ⟨⟨k + 1, x2 + 1, o ++ [(f, x1 - 1)], by omega, by go_num, rfl, by rw [spanCells_append, List.length_append]; exact HO2.out, HB2.out, HIN⟩, by simp [intOf]; omega⟩
  · have hd : decide (k < r.length) = false := by simpa using hlt
    obtain rfl : k = r.length := by omega
    have HDN := Lib.hid (HI.out.done HR.out)
    go_wp2_with (at_builtin; go_must (refine wpList_push (w0 := wr) rfl _ _ 26 rfl w1.heap.size 52 i0 _ 2 16 Try.underlying26 hi hz0 hz1 hz2 rfl (by decide) HO.out rfl [.int .i64 f, .int .i64 1073741824] _ (by first | rfl | (simp; rfl) | simp) rfl (one2 rfl rfl) (by omega) (by omega) (by have := HBE.out.size; simp; omega) ?_); intro v' w2 hown2 hg2 _)
    have hbw := below_pushed HBE.out HO.out (Nat.le_refl _) HBE.out.size hg2
    obtain ⟨av2, cv2, hv2⟩ := own_shape hown2
    subst hv2
    have hsp : Spans w2 av2 (o.length + 1) (o ++ [(f, 1073741824)]) := by
      have := Sl.of_own hown2
      unfold Spans
      rw [spanCells_append]
      exact this
    have HM := Lib.hid (Meet_any A av2 n c (o.length + 1) cv2 a (o ++ [(f, 1073741824)]) w2 (HA.out.below (below_to HB1.out hbw)) hsp hw HDN.out.2 (by omega) (by omega))
    have HBW := Lib.hid hbw
    clear hown2 hg2 hsp hbw
    go_wp2_with (go_at_call 30; refine HM.out.mono ?_; rintro e w3 ⟨r3, ⟨v3, rfl, ho3, hb3⟩, hr3, hl3⟩; have HO3 := Lib.hid ho3; have HB3 := Lib.hid hb3; have HR3 := Lib.hid hr3; clear ho3 hb3 hr3)
    go_ret
    refine ⟨r3, ⟨_, rfl, own_base HO3.out (by have := HB1.out.size; have := HBW.out.size; omega), below_to HB1.out (below_to HBW.out HB3.out)⟩, ?_, by omega⟩
    refine ⟨HR3.out.1, fun z => ?_⟩
    rw [HR3.out.2]
    show (Mem a z ∧ Mem (o ++ [(f, 1073741824)]) z) ↔ (Mem a z ∧ ¬ Mem b z)
    rw [HDN.out.1]
    exact ⟨fun g => ⟨g.1, g.2.2.2⟩, fun g => ⟨g.1, g.1.1, g.1.2.1, g.2⟩⟩

set_option maxRecDepth 100000 in
set_option maxHeartbeats 16000000 in
theorem Count_any (A : Option Addr) (n c : Nat) (l r : List Sp) (w : World) (h : Spans w A n l) (hw : SpW l) (hn : n < 137438953472) (hr : Rep r (Mem l)) :
    Gives Try.prog 67 #[.slice A n c] w (.int .i64 (cnt r)) := by
  have HN := Lib.hid (Norm_any A n c l w h hw (by omega))
  have HR := Lib.hid hr
  clear h hr
  unfold Gives
  go_enter Try.func67, Try.ntmps67
  go_wp2_with fail
  refine HN.out.mono ?_
  rintro e w1 ⟨r', ho, hr', hrl⟩
  obtain rfl : r' = r := Rep.unique hr' HR.out (fun _ => Iff.rfl)
  obtain ⟨g1, c1, rfl, hg1, hc1, hm1, hrow1, hb1⟩ := ho.shape
  have HRow1 := Lib.hid hrow1
  have HB1 := Lib.hid hb1
  clear ho hrow1 hb1 hr' HN
  go_wp2_with fail
  go_loopw [3, 9] (fun s i wr => ∃ k : Nat, k ≤ r'.length ∧ i = .int .i64 k ∧ s = .int .i64 (cnt (r'.take k)) ∧ Below w1.heap.size w1 wr) (fun _ i _ => r'.length - (intOf i).toNat)
  case atStart => exact ⟨0, Nat.zero_le _, rfl, rfl, Below.refl _ _⟩
  case round =>
  obtain ⟨k, hk, rfl, rfl, hbel⟩ := hrel
  have HBE := Lib.hid hbel
  clear hbel
  by_cases hlt : k < r'.length
  · obtain ⟨x, hx⟩ : ∃ x, r'[k]? = some x := ⟨_, List.getElem?_eq_getElem hlt⟩
    have hxb := PlainF.mem HR.out.1 (List.mem_of_getElem? hx)
    have hcx := spanCells_at _ _ _ hx
    have e : cnt (r'.take (k + 1)) = cnt (r'.take k) + (x.2 - x.1 + 1) := by rw [take_snoc? hx, cnt_append, cnt_cons, cnt_nil]; omega
    have hct1 := Plain.cnt_take HR.out.1 k
    have hct2 := Plain.cnt_take HR.out.1 (k + 1)
    have E := Lib.hid e
    obtain ⟨x1, x2⟩ := x
    simp only at hxb hct2 e
    rw [e] at hct2
    clear e hx
    have hlt1 : g1 < w1.heap.size := (HRow1.out.lt g1 rfl).2
    have hd1 : wr.cell? ⟨g1, k * 2, none⟩ = some (.int .i64 x1) := by rw [HBE.out.cell hlt1, HRow1.out.cellAt _ (by omega)]; exact hcx.1
    have hd2 : wr.cell? ⟨g1, k * 2 + 1, none⟩ = some (.int .i64 x2) := by rw [HBE.out.cell hlt1, HRow1.out.cellAt _ (by omega)]; exact hcx.2
    clear hcx
    go_wp2_with fail
    refine ⟨⟨k + 1, by omega, by go_num, by rw [E.out], HBE.out.alloc HBE.out.size _⟩, by simp [intOf]; omega⟩
  · have hd : decide (k < r'.length) = false := by simpa using hlt
    obtain rfl : k = r'.length := by omega
    go_wp2_with fail
    go_ret
    exact ⟨ret_int (by rw [List.take_length]), below_to HB1.out HBE.out⟩
end Go.Proofs.Ytpmhdjiacgckjaa
end
section
namespace Go.Proofs.Ytpmhdjiacgckjaa
open Go.RowKit
set_option linter.unusedVariables false

theorem madeB_self (l : List Sp) (x : Int) : madeB 0 l [] x = true ↔ Mem l x := by
  unfold madeB inHow
  rw [if_neg (by decide), if_neg (by decide)]
  rw [Bool.or_eq_true, hasB_iff, hasB_iff]
  simp [Mem, InS]
theorem rNorm_any (A : Option Addr) (n c : Nat) (l : List Sp) (w : World) (h : Spans w A n l) (hw : SpW l) (hn : n < 1048576) :
    Calls Try.prog 49 #[.slice A n c] w (NewRep w (Mem l)) := by
  have HM := Lib.hid (Make0_any A none n c 0 0 l [] w h (Sl.nil_ _ _ _) hw (fun p hp => by cases hp) hn (by omega))
  clear h
  go_enter Try.func49, Try.ntmps49
  go_wp2_with fail
  refine HM.out.mono ?_
  rintro e w1 ⟨r, ⟨A', n', c', rfl, h1, h2, h3, h4⟩, hr, hl⟩
  go_wp2_with fail
  go_ret
  exact ⟨r, ⟨A', n', c', rfl, h1, h2, h3, h4⟩, hr.congr (madeB_self l), hl⟩

theorem use_newRep {w w' : World} {l r : List Sp} {e : Ending} (h : NewRep w (Mem l) e w') (hr : Rep r (Mem l)) : ∃ A c, e = .returned (.slice A r.length c) ∧ Spans w' A r.length r ∧ Below w.heap.size w w' := by
  obtain ⟨r4, ⟨A4, n4, c4, rfl, hsp4, hc4, hm4, hb4⟩, hr4, hl4⟩ := h
  have e1 : r4 = r := Rep.unique hr4 hr (fun _ => Iff.rfl)
  subst e1
  have := hsp4.len
  subst this
  exact ⟨A4, c4, rfl, hsp4, hb4⟩
theorem Same_self (A B : Option Addr) (n m c d : Nat) (l : List Sp) (w : World) (h : Spans w A n l) (h' : Spans w B m l) (hn : n ≤ 9223372036854775807) (hm : m ≤ 9223372036854775807) : Drawn Try.prog 21 #[.slice A n c, .slice B m d] w (.bool true) :=
  (Same_any A B n c m d l l w h h' hn hm).as (by simp)
theorem Check_rep (A : Option Addr) (n c : Nat) (r : List Sp) (S : Int → Prop) (w : World) (h : Spans w A n r) (hn : n ≤ 9223372036854775806) (hr : Rep r S) : Gives Try.prog 22 #[.slice A n c] w (.bool true) :=
  (Check_any A n c r w h hn).as (by rw [(plainB_iff _ _).2 hr.1])

theorem spans_lit1 (w : World) (p : Sp) (t : TypeId) : Spans (w.alloc (.cells #[.int .i64 p.1, .int .i64 p.2] t)) (some ⟨w.heap.size, 0, none⟩) 1 [p] := by
  refine ⟨by simp [spanCells], fun _ => ⟨_, 0, rfl, fun j u hu => ?_⟩⟩
  have hb := heap_alloc_new w (.cells #[.int .i64 p.1, .int .i64 p.2] t)
  simp only [World.cell?, hb]
  simpa [spanCells] using hu
end Go.Proofs.Ytpmhdjiacgckjaa
end
section
namespace Go.Proofs.Ytpmhdjiacgckjaa
open Go.RowKit
set_option linter.unusedVariables false

/-- what is known at a world stays known at whatever comes; nothing of the walk's beginning has changed -/
def St (w0 w : World) (F : World → Prop) : Prop := (∀ W, Below w.heap.size w W → F W) ∧ Below w0.heap.size w0 w
theorem St.start {w : World} {F : World → Prop} (h : ∀ W, Below w.heap.size w W → F W) : St w w F := ⟨h, Below.refl _ _⟩
theorem St.now {w0 w : World} {F : World → Prop} (h : St w0 w F) : F w := h.1 w (Below.refl _ _)
theorem St.step {w0 w w' : World} {F : World → Prop} (h : St w0 w F) (hb : Below w.heap.size w w') : St w0 w' F := ⟨fun W hW => h.1 W (below_to hb hW), below_to h.2 hb⟩
theorem St.add {w0 w w' : World} {F G : World → Prop} (h : St w0 w F) (hb : Below w.heap.size w w') (hG : ∀ W, Below w'.heap.size w' W → G W) : St w0 w' (fun W => G W ∧ F W) :=
  ⟨fun W hW => ⟨hG W hW, h.1 W (below_to hb hW)⟩, below_to h.2 hb⟩
theorem St.drewN {w0 w : World} {F : World → Prop} (h : St w0 w F) (q : Nat) : St w0 (w.drewN q) F := h.step (below_drewN (Below.refl _ _) q)
theorem St.alloc {w0 w : World} {F : World → Prop} (h : St w0 w F) (o : Obj) : St w0 (w.alloc o) F := h.step ((Below.refl _ _).alloc (Nat.le_refl _) o)
theorem St.weaken {w0 w : World} {F G : World → Prop} (h : St w0 w F) (hG : ∀ W, F W → G W) : St w0 w G := ⟨fun W hW => hG W (h.1 W hW), h.2⟩
theorem St.hstep {w0 w w' : World} {F : World → Prop} (h : Hid (St w0 w F)) (hb : Below w.heap.size w w') : Hid (St w0 w' F) := Lib.hid (h.out.step hb)
theorem St.hdrewN {w0 w : World} {F : World → Prop} (h : Hid (St w0 w F)) (q : Nat) : Hid (St w0 (w.drewN q) F) := Lib.hid (h.out.drewN q)

/-- a call that returns v -/
def RetV (w0 : World) (v : Value) (F : World → Prop) (e : Ending) (w' : World) : Prop := e = .returned v ∧ Hid (St w0 w' F)

theorem retV_gives {P : Program} {f : FuncId} {args : Array Value} {w0 w : World} {v : Value} {F : World → Prop} (hK : Hid (St w0 w F)) (h : Gives P f args w v) : Calls P f args w (RetV w0 v F) :=
  Calls.mono h fun e w' ⟨he, hb⟩ => ⟨he, St.hstep hK hb⟩
theorem retV_drawn {P : Program} {f : FuncId} {args : Array Value} {w0 w : World} {v : Value} {F : World → Prop} (hK : Hid (St w0 w F)) (h : Drawn P f args w v) : Calls P f args w (RetV w0 v F) :=
  retV_gives hK h.gives
theorem RetV.as {w0 : World} {v v' : Value} {F : World → Prop} {e : Ending} {w' : World} (h : RetV w0 v F e w') (hv : v = v') : RetV w0 v' F e w' := hv ▸ h
end Go.Proofs.Ytpmhdjiacgckjaa
end
