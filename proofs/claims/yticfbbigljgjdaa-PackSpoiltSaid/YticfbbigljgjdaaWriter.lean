/- Words for a writer behind a pointer, and the contract of (*pack.writer).num. Condition: the writer's block and its row are the call's own; fewer than 2^30 bytes. -/
import Derived.Test.YticfbbigljgjdaaTabNode
import Derived.Lib.FrozenHead2
namespace Go.Proofs.Yticfbbigljgjdaa
open Go.RowKit
set_option linter.unusedVariables false
set_option linter.unusedSimpArgs false

/-- block pb and one row alone may have been written -/
structure Only (pb : Nat) (r : Option Nat) (w w' : World) : Prop where
  os : w'.os = w.os
  tape : w'.tape = w.tape
  output : w'.output = w.output
  size : w.heap.size ≤ w'.heap.size
  block : ∀ k, k < w.heap.size → k ≠ pb → some k ≠ r → w'.heap[k]? = w.heap[k]?
/-- a row that is the old one, or new -/
def Newer (r r' : Option Nat) (n : Nat) : Prop := r' = r ∨ ∃ g, r' = some g ∧ n ≤ g
theorem Newer.refl (r : Option Nat) (n : Nat) : Newer r r n := .inl rfl
theorem Newer.trans {r r1 r2 : Option Nat} {n m : Nat} (h : Newer r r1 n) (k : Newer r1 r2 m) (hm : n ≤ m) : Newer r r2 n := by
  rcases k with rfl | ⟨g, rfl, hg⟩
  · exact h
  · exact .inr ⟨g, rfl, Nat.le_trans hm hg⟩
theorem Only.refl (pb : Nat) (r : Option Nat) (w : World) : Only pb r w w := ⟨rfl, rfl, rfl, Nat.le_refl _, fun _ _ _ _ => rfl⟩
theorem Only.trans {pb : Nat} {r r1 : Option Nat} {a b c : World} (h : Only pb r a b) (k : Only pb r1 b c) (hr : Newer r r1 a.heap.size) : Only pb r a c :=
  ⟨k.os.trans h.os, k.tape.trans h.tape, k.output.trans h.output, Nat.le_trans h.size k.size, fun i hi h1 h2 => by
    refine (k.block i (Nat.lt_of_lt_of_le hi h.size) h1 ?_).trans (h.block i hi h1 h2)
    rcases hr with rfl | ⟨g, rfl, hg⟩
    · exact h2
    · intro e; injection e with e; omega⟩
theorem Only.alloc {pb : Nat} {r : Option Nat} {a b : World} (h : Only pb r a b) (o : Obj) : Only pb r a (b.alloc o) :=
  ⟨h.os, h.tape, h.output, Nat.le_trans h.size (by simp), fun k hk h1 h2 => (Below.heap_alloc _ _ _ (Nat.lt_of_lt_of_le hk h.size)).trans (h.block k hk h1 h2)⟩
theorem Only.drewN {pb : Nat} {r : Option Nat} {a b : World} (h : Only pb r a b) (n : Nat) : Only pb r a (b.drewN n) := ⟨h.os, h.tape, h.output, h.size, h.block⟩
theorem Only.setCell {pb : Nat} {r : Option Nat} {a b : World} (h : Only pb r a b) (i : Nat) (u : Value) : Only pb r a (b.setCell ⟨pb, i, none⟩ u) :=
  ⟨h.os, h.tape, h.output, Nat.le_trans h.size (by simp [World.setCell]), fun k hk h1 h2 => (Below.heap_setCell _ _ _ _ h1).trans (h.block k hk h1 h2)⟩
theorem Only.grown {pb : Nat} {r r1 : Option Nat} {a b c : World} (h : Only pb r a b) (hg : b.grownBy c r1) (hr : Newer r r1 a.heap.size) : Only pb r a c :=
  ⟨hg.os.trans h.os, hg.tape.trans h.tape, hg.output.trans h.output, Nat.le_trans h.size hg.size, fun k hk h1 h2 => by
    refine (hg.block k (Nat.lt_of_lt_of_le hk h.size) ?_).trans (h.block k hk h1 h2)
    rcases hr with rfl | ⟨g, rfl, hg2⟩
    · exact h2
    · intro e; injection e with e; omega⟩
theorem Only.of_below {pb : Nat} {r : Option Nat} {a b : World} (h : Below a.heap.size a b) : Only pb r a b := ⟨h.os, h.tape, h.output, h.size, fun k hk _ _ => h.block k hk⟩
theorem Only.below {pb B : Nat} {r : Option Nat} {a b : World} (h : Only pb r a b) (hp : B ≤ pb) (hr : ∀ g, r = some g → B ≤ g) (hB : B ≤ a.heap.size) : Below B a b :=
  ⟨h.os, h.tape, h.output, h.size, fun k hk => h.block k (by omega) (by omega) (fun e => by have := hr k e.symm; omega)⟩

/-- a row of bytes that the call owns; or bytes that came of a constant, with no room behind them -/
def RowW (w : World) (base : Nat) (v : Value) (n : Nat) (xs : List Value) : Prop := w.ownsRow base 5 1 v n xs ∨
  ∃ g cur fz, v = .slice (some ⟨g, 0, none⟩) n n ∧ base ≤ g ∧ w.heap[g]? = some (.cells cur 5 fz) ∧ cur.toList = xs ∧ xs.length = n ∧ n ≤ maxLen
theorem RowW.lt {w : World} {base : Nat} {v : Value} {n : Nat} {xs : List Value} (h : RowW w base v n xs) : ∀ k, v.ownBlock = some k → base ≤ k ∧ k < w.heap.size := by
  rcases h with h | ⟨g, cur, fz, rfl, h1, h2, _⟩
  · exact h.lt
  · intro k hk
    injection hk with hk
    subst hk
    exact ⟨h1, (Array.getElem?_eq_some_iff.1 h2).1⟩
theorem RowW.keep {w w' : World} {base : Nat} {v : Value} {n : Nat} {xs : List Value} (h : RowW w base v n xs) (hb : ∀ k, v.ownBlock = some k → w'.heap[k]? = w.heap[k]?) : RowW w' base v n xs := by
  rcases h with h | ⟨g, cur, fz, rfl, h1, h2, h3⟩
  · left
    refine ⟨h.1, ?_⟩
    rcases h.2 with hn | ⟨g, cap, cur, h1, h2, h3, h4⟩
    · exact .inl hn
    · exact .inr ⟨g, cap, cur, h1, h2, (hb g (by rw [h1]; rfl)).trans h3, h4⟩
  · exact .inr ⟨g, cur, fz, rfl, h1, (hb g rfl).trans h2, h3⟩
theorem run_append_rowW {w : World} (base : Nat) (ty : TypeId) (i : TypeInfo) (hi : Try.prog.info? 5 = some i) (hz : i.zero = some (.int .u8 0)) (hsize : i.size = 1) (hby : i.bytes = 1)
    (v : Value) (n : Nat) (xs : List Value) (hown : RowW w base v n xs)
    (a : Addr) (m c : Nat) (news : List Value) (hl : news.length = m) (hm0 : 0 < m) (hnews : ∀ j u, news[j]? = some u → w.cell? (a.add j) = some u) (h1 : ∀ u ∈ news, u.oneCell' = true)
    (h63 : n + m ≤ 9223372036854775807) (hbytes : n + m ≤ 140737488355328) (hbase : base ≤ w.heap.size) :
    ∃ v' w', (Builtin.append_ #[30, 30] ty #[v, .slice (some a) m c]).run Try.prog w = .ok v' w' ∧ w'.ownsRow base 5 1 v' (n + m) (xs ++ news) ∧ w.grownBy w' v.ownBlock ∧ (v'.ownBlock = v.ownBlock ∨ v'.ownBlock = some w.heap.size) := by
  rcases hown with hown | ⟨g, cur, fz, rfl, hbg, hg, hcur, hxl, hnm⟩
  · obtain ⟨v', w', r1, r2, r3, _, r5⟩ := run_append_own_at (P := Try.prog) w base 30 ty 5 i (.int .u8 0) 1 1 Try.underlying30 hi hz hsize hby rfl (by decide) v n xs hown a m c news (by omega) hnews h1 (by unfold maxLen; omega) (by omega) hbase
    exact ⟨v', w', r1, r2, r3, r5⟩
  · have holds : ∀ j u, xs[j]? = some u → w.cell? ((⟨g, 0, none⟩ : Addr).add j) = some u := fun j u hu => by
      have e : (⟨g, 0, none⟩ : Addr).add j = ⟨g, j, none⟩ := by unfold Addr.add; split <;> simp_all
      rw [e]
      simp only [World.cell?, hg]
      rw [← hcur] at hu
      simpa using hu
    have hr := run_append_grow (P := Try.prog) w 30 ty 5 i (.int .u8 0) Try.underlying30 hi hz ⟨g, 0, none⟩ n n xs (by rw [hxl, hsize]; omega) holds a m c news (by rw [hl, hsize]; omega) hnews (by omega) (by omega) (growslice_fits (by omega) (by rw [hby]; omega))
    have hge := grownCap_ge w (n + m) n 5
    have hcm2 : grownCap w (n + m) n 5 ≤ maxLen := grownCap_le_maxLen w (n + m) n 5 (by unfold maxLen; omega)
    have hlen : (xs ++ news).length = (n + m) * 1 := by rw [List.length_append, hxl, hl]; omega
    refine ⟨_, _, hr, ⟨hlen, .inr ⟨w.heap.size, _, _, rfl, hbase, heap_alloc_new w.drew _, hge, hcm2, ?_, ?_⟩⟩, ⟨rfl, rfl, rfl, by simp, fun k hk _ => Below.heap_alloc w.drew _ k hk⟩, .inr rfl⟩
    · simp only [Array.size_append, List.size_toArray, size_zeroCells, hxl, hl]
      have : (Value.int IntKind.u8 0).cells.size = 1 := rfl
      rw [this]; omega
    · simp only [Array.toList_append, List.append_assoc]
      rw [← List.append_assoc, ← hlen]
      exact List.take_left
/-- the writer: its block, its row of bytes -/
structure WrS (W : World) (base pb : Nat) (A : Option Addr) (c : Nat) (bs : List Int) (lg : Bool) : Prop where
  box : W.heap[pb]? = some (.cells #[.slice A bs.length c, .bool lg] 55 (0, 0))
  row : RowW W base (.slice A bs.length c) bs.length (bs.map (Value.int .u8))
  bp : base ≤ pb
  ne : Value.ownBlock (.slice A bs.length c) ≠ some pb
def ownA (A : Option Addr) : Option Nat := A.map (·.block)
theorem own_ownA (A : Option Addr) (n c : Nat) : Value.ownBlock (.slice A n c) = ownA A := by cases A <;> rfl
section
variable {W W' : World} {base pb : Nat} {A : Option Addr} {c : Nat} {bs : List Int} {lg : Bool}
theorem WrS.lt (h : WrS W base pb A c bs lg) : pb < W.heap.size := (Array.getElem?_eq_some_iff.1 h.box).1
theorem WrS.c0 (h : WrS W base pb A c bs lg) : W.cell? ⟨pb, 0, none⟩ = some (.slice A bs.length c) ∧ W.cell? ⟨pb, 1, none⟩ = some (.bool lg) := by
  have := h.box; constructor <;> simp [World.cell?, this]
theorem WrS.fr (h : WrS W base pb A c bs lg) (i : Nat) : W.frozen? ⟨pb, i, none⟩ = false := frozen_of_row _ _ _ _ _ h.box
/-- what does not write the two blocks -/
theorem WrS.keep (h : WrS W base pb A c bs lg) (hb : ∀ k, k < W.heap.size → W'.heap[k]? = W.heap[k]?) : WrS W' base pb A c bs lg := by
  exact ⟨(hb _ h.lt).trans h.box, h.row.keep fun k hk => hb k (h.row.lt k hk).2, h.bp, h.ne⟩
theorem WrS.alloc (h : WrS W base pb A c bs lg) (o : Obj) : WrS (W.alloc o) base pb A c bs lg := h.keep fun k hk => Below.heap_alloc _ _ _ hk
theorem WrS.drewN (h : WrS W base pb A c bs lg) (n : Nat) : WrS (W.drewN n) base pb A c bs lg := h.keep fun k hk => rfl
theorem WrS.below (h : WrS W base pb A c bs lg) (hb : Below W.heap.size W W') : WrS W' base pb A c bs lg := h.keep fun k hk => hb.block k hk
theorem WrS.setLong (h : WrS W base pb A c bs lg) (b : Bool) : WrS (W.setCell ⟨pb, 1, none⟩ (.bool b)) base pb A c bs b := by
  refine ⟨?_, ?_, h.bp, h.ne⟩
  · rw [heap_setCell_same W pb 1 _ _ (.bool b) h.box]; rfl
  · exact h.row.keep fun k hk => heap_setCell_other _ _ _ _ (fun e => h.ne (by rw [hk]; exact congrArg some e))
/-- four bytes more: the row behind an append, and the store of its new header -/
theorem WrS.grow (h : WrS W base pb A c bs lg) {A' : Option Addr} {c' : Nat} {news : List Int} {Wm : World} {o : Obj} (ho : Wm.ownsRow base 5 1 (.slice A' (bs ++ news).length c') (bs ++ news).length ((bs ++ news).map (Value.int .u8)))
    (hg : (W.alloc o).grownBy Wm (Value.ownBlock (.slice A bs.length c))) (hat : Value.ownBlock (.slice A' (bs ++ news).length c') = Value.ownBlock (.slice A bs.length c) ∨ Value.ownBlock (.slice A' (bs ++ news).length c') = some (W.heap.size + 1)) :
    WrS (Wm.setCell ⟨pb, 0, none⟩ (.slice A' (bs ++ news).length c')) base pb A' c' (bs ++ news) lg := by
  have hbx : Wm.heap[pb]? = some (.cells #[.slice A bs.length c, .bool lg] 55 (0, 0)) := by
    rw [hg.block pb (by have := h.lt; simp; omega) (Ne.symm h.ne), Below.heap_alloc _ _ _ h.lt]; exact h.box
  have hne : Value.ownBlock (.slice A' (bs ++ news).length c') ≠ some pb := by
    rcases hat with e | e
    · rw [e]; exact h.ne
    · rw [e]; intro e2; injection e2 with e2; have := h.lt; omega
  refine ⟨?_, ?_, h.bp, hne⟩
  · rw [heap_setCell_same Wm pb 0 _ _ _ hbx]; rfl
  · refine .inl ⟨ho.1, ?_⟩
    rcases ho.2 with hn | ⟨g, cap, cur, h1, h2, h3, h4⟩
    · exact .inl hn
    · refine .inr ⟨g, cap, cur, h1, h2, ?_, h4⟩
      have hg : g ≠ pb := fun e => hne (by rw [h1, e]; rfl)
      rw [heap_setCell_other _ _ _ _ hg]; exact h3
end
theorem WrS.boxG {W : World} {base pb : Nat} {A : Option Addr} {c : Nat} {bs : List Int} {lg : Bool} (h : WrS W base pb A c bs lg) {Wm : World} {o : Obj} (hg : (W.alloc o).grownBy Wm (Value.ownBlock (.slice A bs.length c))) :
    Wm.cell? ⟨pb, 0, none⟩ = some (.slice A bs.length c) ∧ Wm.frozen? ⟨pb, 0, none⟩ = false := by
  have hbx : Wm.heap[pb]? = some (.cells #[.slice A bs.length c, .bool lg] 55 (0, 0)) := by
    rw [hg.block pb (by have := h.lt; simp; omega) (Ne.symm h.ne), Below.heap_alloc _ _ _ h.lt]; exact h.box
  exact ⟨by simp [World.cell?, hbx], frozen_of_row _ _ _ _ _ hbx⟩
theorem info_u8 : (Try.prog.info? 5).map (fun i => (i.zero, i.size, i.bytes)) = some (some (.int .u8 0), 1, 1) := by kernel_rfl
section
variable {w0 : World} {ops : Array Oper} {rest : List Oper} {o : Oper} {a : Act} {Q : Exit → Act → World → Prop} {base : Nat} {A : Option Addr} {c : Nat} {bs : List Int}
/-- four bytes behind a row -/
theorem wpList_push4 (hgd : o.guard = none) (s x : Operand) (ho : o.op = .call { callee := .builtin .append, args := #[s, x], argTypes := #[30, 30] })
    (hown : RowW w0 base (.slice A bs.length c) bs.length (bs.map (Value.int .u8))) (hs : a.eval s = .slice A bs.length c) (x0 x1 x2 x3 : Int) (hx : a.eval x = .slice (some ⟨w0.heap.size, 0, none⟩) 4 4) (hn : bs.length < 1099511627776) (hbase : base ≤ w0.heap.size)
    (h : ∀ A' c' w', Hid (w'.ownsRow base 5 1 (.slice A' (bs ++ [x0, x1, x2, x3]).length c') (bs ++ [x0, x1, x2, x3]).length ((bs ++ [x0, x1, x2, x3]).map (Value.int .u8))) → Hid ((w0.alloc (.cells #[.int .u8 x0, .int .u8 x1, .int .u8 x2, .int .u8 x3] 5)).grownBy w' (Value.ownBlock (.slice A bs.length c))) →
      Hid (Value.ownBlock (.slice A' (bs ++ [x0, x1, x2, x3]).length c') = Value.ownBlock (.slice A bs.length c) ∨ Value.ownBlock (.slice A' (bs ++ [x0, x1, x2, x3]).length c') = some (w0.heap.size + 1)) → wpList Try.prog ops Q rest (a.put o.dst (.slice A' (bs ++ [x0, x1, x2, x3]).length c')) w') :
    wpList Try.prog ops Q (o :: rest) a (w0.alloc (.cells #[.int .u8 x0, .int .u8 x1, .int .u8 x2, .int .u8 x3] 5)) := by
  obtain ⟨i0, hi, hz0, hz1, hz2⟩ := info_parts info_u8
  have hs0 : (w0.alloc (.cells #[.int .u8 x0, .int .u8 x1, .int .u8 x2, .int .u8 x3] 5)).heap.size = w0.heap.size + 1 := by simp
  have hl4 : (bs ++ [x0, x1, x2, x3]).length = bs.length + 4 := by simp
  have hm4 : (bs ++ [x0, x1, x2, x3]).map (Value.int .u8) = bs.map (Value.int .u8) ++ [.int .u8 x0, .int .u8 x1, .int .u8 x2, .int .u8 x3] := by simp
  rw [hl4, hm4] at h
  have hown2 : RowW (w0.alloc (.cells #[.int .u8 x0, .int .u8 x1, .int .u8 x2, .int .u8 x3] 5)) base (.slice A bs.length c) bs.length (bs.map (Value.int .u8)) := hown.keep fun k hk => Below.heap_alloc _ _ _ (hown.lt k hk).2
  refine wpList_plain hgd fun K hK => ?_
  obtain ⟨v', w', hr, hown', hg, hat⟩ := run_append_rowW base o.type i0 hi hz0 hz1 hz2 _ bs.length _ hown2 ⟨w0.heap.size, 0, none⟩ 4 4 [.int .u8 x0, .int .u8 x1, .int .u8 x2, .int .u8 x3] rfl (by decide)
    (World.news_of_block (cs := #[.int .u8 x0, .int .u8 x1, .int .u8 x2, .int .u8 x3]) (t := 5) (fr := (0, 0)) (heap_alloc_new w0 _)) (by intro v hv; simp at hv; rcases hv with rfl | rfl | rfl | rfl <;> rfl) (by omega) (by omega) (by rw [hs0]; omega)
  obtain ⟨A', c', rfl⟩ := own_shape hown'
  rw [hs0] at hat
  unfold Oper.wp execOp
  simp only [ho, resolve, invoke, builtin, Sem.run_bind, Sem.run_pure, Result.andThen_ok, List.map_toArray, List.map_cons, List.map_nil, hs, hx, hr]
  exact hK _ _ (h A' c' w' hown' hg hat)
end
/-- is there a number that has no 32 bits -/
def big32 (x : Int) : Bool := decide (x < -2147483648) || decide (2147483647 < x)
def bigs (l : List Int) : Bool := l.any big32
theorem bigs_snoc (l : List Int) (x : Int) : bigs (l ++ [x]) = (bigs l || big32 x) := by unfold bigs; simp
/-- what a call leaves that wrote bs and told lg -/
def RetW (w : World) (base pb : Nat) (r : Option Nat) (bs : List Int) (lg : Bool) (e : Ending) (w' : World) : Prop :=
  e = .returned (.tuple #[]) ∧ ∃ A' c', Hid (WrS w' base pb A' c' bs lg) ∧ Hid (Only pb r w w') ∧ Hid (Newer r (ownA A') w.heap.size)
/-- a list of numbers that lies apart from the writer -/
def Apart (B : Option Addr) (n pb : Nat) (r : Option Nat) : Prop := n = 0 ∨ ∃ b off, B = some ⟨b, off, none⟩ ∧ b ≠ pb ∧ some b ≠ r
set_option maxRecDepth 100000 in
set_option maxHeartbeats 16000000 in
theorem num_any (base pb : Nat) (A : Option Addr) (c : Nat) (bs : List Int) (lg : Bool) (B : Option Addr) (l : List Int) (d : Nat) (w : World) (hW : Hid (WrS w base pb A c bs lg)) (hl : Hid (IntsAt B l w)) (hB : Hid (Apart B l.length pb (ownA A)))
    (hlen : bs.length + 4 * l.length ≤ 1073741824) (hbase : base ≤ w.heap.size) :
    Calls Try.prog 20 #[.pointer (some ⟨pb, 0, none⟩), .slice B l.length d] w (RetW w base pb (ownA A) (bs ++ l.flatMap numB) (lg || bigs l)) := by
  go_enter Try.func20, Try.ntmps20
  go_wp2_with fail
  go_loopw [8] (fun i wq => ∃ (k : Nat) (A1 : Option Addr) (c1 : Nat), k ≤ l.length ∧ i = .int .i64 k ∧ Hid (WrS wq base pb A1 c1 (bs ++ (l.take k).flatMap numB) (lg || bigs (l.take k))) ∧ Hid (Only pb (ownA A) w wq) ∧ Hid (Newer (ownA A) (ownA A1) w.heap.size)) (fun i _ => l.length - (intOf i).toNat)
  case atStart => exact ⟨0, A, c, Nat.zero_le _, rfl, by simpa [bigs] using hW, Lib.hid (Only.refl _ _ _), Lib.hid (Newer.refl _ _)⟩
  case round =>
  obtain ⟨k, A1, c1, hk, rfl, HW, HO, HN⟩ := hrel
  by_cases hlt : k < l.length
  · obtain ⟨b, off, x, hB1, hx, hx64, hc⟩ := hl.out.at_ hlt
    have hlw := lt_of_cell hc
    obtain ⟨b', off', hB2, hb1, hb2⟩ := hB.out.resolve_left (by omega)
    rw [hB1] at hB2
    injection hB2 with hB2
    injection hB2 with e1 e2
    subst e1; subst e2
    have hc' : wr.cell? ⟨b, off + k, none⟩ = some (.int .i64 x) := (World.cell?_of_block (HO.out.block b hlw hb1 hb2)).trans hc
    obtain ⟨bs1, hbs1⟩ : ∃ z, bs ++ (l.take k).flatMap numB = z := ⟨_, rfl⟩
    obtain ⟨lg1, hlg1⟩ : ∃ z, (lg || bigs (l.take k)) = z := ⟨_, rfl⟩
    rw [hbs1, hlg1] at HW
    have HBS := Lib.hid hbs1
    have HLG := Lib.hid hlg1
    have HX := Lib.hid hx
    subst hB1
    obtain ⟨hx0, hx1⟩ := hx64
    obtain ⟨w0', w1'⟩ := HW.out.c0
    have f1 := HW.out.fr 1
    have HX64 := Lib.hid (And.intro hx0 hx1)
    have hlen1 : bs1.length + 4 ≤ 1073741824 := by
      have : bs1.length = bs.length + 4 * k := by
        rw [← hbs1, List.length_append]
        have h2 : ∀ (l : List Int), (l.flatMap numB).length = 4 * l.length := fun l => by
          induction l with
          | nil => rfl
          | cons x l ih => rw [List.flatMap_cons, List.length_append, ih, numB_len, List.length_cons]; omega
        rw [h2, List.length_take]; omega
      omega
    have hlp := HW.out.lt
    clear hc hx hbs1 hlg1 hk
    obtain ⟨v, hv, hcase⟩ : ∃ v : Bool, Hid ((lg1 || big32 x) = v) ∧ ((lg1 = true ∧ v = true) ∨ (lg1 = false ∧ x < -2147483648 ∧ v = true) ∨ (lg1 = false ∧ ¬ x < -2147483648 ∧ 2147483647 < x ∧ v = true) ∨ (lg1 = false ∧ ¬ x < -2147483648 ∧ ¬ 2147483647 < x ∧ v = false)) := by
      refine ⟨_, Lib.hid rfl, ?_⟩
      unfold big32
      cases lg1
      · by_cases h1 : x < -2147483648
        · simp [h1]
        · by_cases h2 : 2147483647 < x
          · simp [h1, h2]
          · simp [h1, h2]
      · simp
    have HW1 : Hid (WrS (wr.setCell ⟨pb, 1, none⟩ (.bool v)) base pb A1 c1 bs1 v) := Lib.hid (HW.out.setLong v)
    have q0 := HW1.out.c0.1
    have hb1 : base ≤ (wr.setCell ⟨pb, 1, none⟩ (.bool v)).heap.size := Nat.le_trans hbase (Nat.le_trans HO.out.size (by simp [World.setCell]))
    have HO1 := Lib.hid (HO.out.setCell 1 (.bool v))
    have hcl : (wr.setCell ⟨pb, 1, none⟩ (.bool v)).cell? ⟨b, off + k, none⟩ = some (.int .i64 x) := by rw [World.cell?_of_block (Below.heap_setCell _ _ _ _ (by exact fun e => (by assumption : b ≠ pb) e))]; exact hc'
    have HLE : Hid ((lg || bigs (l.take (k + 1))) = v) := Lib.hid (by rw [take_snoc? HX.out, bigs_snoc, ← Bool.or_assoc, HLG.out]; exact hv.out)
    rcases hcase with ⟨rfl, rfl⟩ | ⟨rfl, h1, rfl⟩ | ⟨rfl, h1, h2, rfl⟩ | ⟨rfl, h1, h2, rfl⟩
    all_goals
      go_wp2_with (at_builtin; go_must (refine wpList_push4 rfl _ _ rfl HW1.out.row rfl _ _ _ _ (by first | rfl | (simp; rfl) | simp) (by omega) hb1 ?_); intro A5 c5 w5 HO5 HG5 HAT5; (obtain ⟨s0, s1⟩ := HW1.out.boxG HG5.out))
      have HW5 := Lib.hid (HW1.out.grow HO5.out HG5.out HAT5.out)
      have HN5 : Hid (Newer (ownA A) (ownA A5) w.heap.size) := Lib.hid (by
        have h := HAT5.out
        rw [own_ownA, own_ownA] at h
        rcases h with h | h
        · rw [h]; exact HN.out
        · exact .inr ⟨_, h, Nat.le_trans HO1.out.size (Nat.le_succ _)⟩)
      have HO5' := Lib.hid ((((HO1.out.alloc _).grown HG5.out (by rw [own_ownA]; exact HN.out))).setCell 0 (.slice A5 (bs1 ++ [x / 16777216 % 256, x / 65536 % 256, x / 256 % 256, x % 256]).length c5))
      have HBE : Hid (bs1 ++ [x / 16777216 % 256, x / 65536 % 256, x / 256 % 256, x % 256] = bs ++ (l.take (k + 1)).flatMap numB) := Lib.hid (by rw [take_snoc? HX.out, List.flatMap_append, ← List.append_assoc, HBS.out]; simp [numB])
      have hl4 : (bs1 ++ [x / 16777216 % 256, x / 65536 % 256, x / 256 % 256, x % 256]).length = bs1.length + 4 := by simp
      rw [hl4] at HW5 HO5'
      exact ⟨⟨k + 1, A5, c5, by omega, by go_num, by rw [HLE.out, ← HBE.out]; exact HW5, HO5', HN5⟩, by simp [intOf]; omega⟩
  · obtain rfl : k = l.length := by omega
    have hd : decide (l.length < l.length) = false := by simp
    have HE : Hid (WrS wr base pb A1 c1 (bs ++ l.flatMap numB) (lg || bigs l)) := by rw [List.take_length] at HW; exact HW
    go_wp2_with fail
    go_end0
    exact ⟨rfl, A1, c1, HE, HO, HN⟩
end Go.Proofs.Yticfbbigljgjdaa
