/- Words for a row of records on its way: what else may have been written, what of memory it hangs on; one record more behind it. No function of the program in sight. Condition: none. Contract of box.Meet: what two boxes have in common, place by place, or that there is nothing. Condition: the boxes are known. Words for a row of lists on its way in a block of its own; a block of numbers on its way. No function of the program in sight. Condition: none. A map in memory as a list of pairs of values: look-up, store, length, a range over it. No function of the program in sight. Condition: the key's type has a law (Keyed). A map from ints to rows of the call's own, on its way: looked up, one record more behind a key's row. No function of the program in sight. Condition: none. The key's law of a map keyed by places (a state and up to four classes). Condition: the numbers are ints. Contracts of part.Whole, term.plain and term.Right of any sorts. Condition: the term's parts are known. Plain facts: the inner values of all windows of guards; what a term's values are. No program in sight. Condition: none. Contract of term.values for a term without parts. Condition: its sum is small. Contracts of span.Each and of the iterator that it gives. Condition: a list of fewer than 2^37 spans, whose numbers are ints; the loop's body keeps whatever is not its own. Plain facts on the values of parts: what comes of a span, and of which numbers a value comes. No program in sight. Condition: none. -/
import Derived.Test.YtlmkokeapbleoaaR01
import Derived.Test.YtlmkokeapbleoaaR04
import Derived.Deep.RegionHeld3
import Derived.Deep.DeepCutAuto
import Derived.Deep.OwnRows
import Derived.Maps.OwnIn
import Derived.Maps.OwnSet
import Derived.Maps.RangeWalk
import Derived.DeepKeys4
import Derived.Deep.RegionWith
import Derived.Laws.StructEq
import Derived.RangeFuncNested
import Derived.RangeFuncBound
import Derived.RangeFuncCalls
import Derived.RangeFuncLeaves
import Derived.Shelf.Abstract
import Derived.Shelf.RegionOpen
import Derived.OwnWalkIn
import Derived.TacticsInMore
import Derived.LoopNIn
import Derived.LoopIn
import Derived.Deep.RegionHeld
set_option maxRecDepth 100000
set_option maxHeartbeats 64000000
set_option linter.unusedVariables false
set_option linter.unusedSimpArgs false
section
namespace Go.Proofs.Ytlmkokeapbleoaa
open Go.RowKit
structure Only (pb : Nat) (r : Option Nat) (w w' : World) : Prop where
  os : w'.os = w.os
  tape : w'.tape = w.tape
  output : w'.output = w.output
  size : w.heap.size ≤ w'.heap.size
  block : ∀ k, k < w.heap.size → k ≠ pb → some k ≠ r → w'.heap[k]? = w.heap[k]?
def Newer (r r' : Option Nat) (n : Nat) : Prop := r' = r ∨ ∃ g, r' = some g ∧ n ≤ g
theorem Newer.refl (r : Option Nat) (n : Nat) : Newer r r n := .inl rfl
theorem Newer.trans {r r1 r2 : Option Nat} {n m : Nat} (h : Newer r r1 n) (k : Newer r1 r2 m) (hm : n ≤ m) : Newer r r2 n := by
  rcases k with rfl | ⟨g, rfl, hg⟩
  · exact h
  · exact .inr ⟨g, rfl, Nat.le_trans hm hg⟩
theorem Only.refl (pb : Nat) (r : Option Nat) (w : World) : Only pb r w w := ⟨rfl, rfl, rfl, Nat.le_refl _, fun _ _ _ _ => rfl⟩
theorem Only.trans {pb : Nat} {r r1 : Option Nat} {a b c : World} (h : Only pb r a b) (k : Only pb r1 b c) (hr : Newer r r1 a.heap.size) : Only pb r a c :=
  ⟨k.os.trans h.os, k.tape.trans h.tape, k.output.trans h.output, Nat.le_trans h.size k.size, fun i hi h1 h2 => by
    refine (k.block i (Nat.lt_of_lt_of_le hi h.size) h1 ?_).trans (h.block i hi h1 h2)
    rcases hr with rfl | ⟨g, rfl, hg⟩
    · exact h2
    · intro e; injection e with e; omega⟩
theorem Only.alloc {pb : Nat} {r : Option Nat} {a b : World} (h : Only pb r a b) (o : Obj) : Only pb r a (b.alloc o) :=
  ⟨h.os, h.tape, h.output, Nat.le_trans h.size (by simp), fun k hk h1 h2 => (Below.heap_alloc _ _ _ (Nat.lt_of_lt_of_le hk h.size)).trans (h.block k hk h1 h2)⟩
theorem Only.drewN {pb : Nat} {r : Option Nat} {a b : World} (h : Only pb r a b) (n : Nat) : Only pb r a (b.drewN n) := ⟨h.os, h.tape, h.output, h.size, h.block⟩
theorem Only.setCell {pb : Nat} {r : Option Nat} {a b : World} (h : Only pb r a b) (i : Nat) (u : Value) : Only pb r a (b.setCell ⟨pb, i, none⟩ u) :=
  ⟨h.os, h.tape, h.output, Nat.le_trans h.size (by simp [World.setCell]), fun k hk h1 h2 => (Below.heap_setCell _ _ _ _ h1).trans (h.block k hk h1 h2)⟩
theorem Only.grown {pb : Nat} {r r1 : Option Nat} {a b c : World} (h : Only pb r a b) (hg : b.grownBy c r1) (hr : Newer r r1 a.heap.size) : Only pb r a c :=
  ⟨hg.os.trans h.os, hg.tape.trans h.tape, hg.output.trans h.output, Nat.le_trans h.size hg.size, fun k hk h1 h2 => by
    refine (hg.block k (Nat.lt_of_lt_of_le hk h.size) ?_).trans (h.block k hk h1 h2)
    rcases hr with rfl | ⟨g, rfl, hg2⟩
    · exact h2
    · intro e; injection e with e; omega⟩
theorem Only.below {pb B : Nat} {r : Option Nat} {a b : World} (h : Only pb r a b) (hp : B ≤ pb) (hr : ∀ g, r = some g → B ≤ g) (hB : B ≤ a.heap.size) : Below B a b :=
  ⟨h.os, h.tape, h.output, h.size, fun k hk => h.block k (by omega) (by omega) (fun e => by have := hr k e.symm; omega)⟩
def ownA (A : Option Addr) : Option Nat := A.map (·.block)
theorem own_ownA (A : Option Addr) (n c : Nat) : Value.ownBlock (.slice A n c) = ownA A := by cases A <;> rfl
def Dep (P : Nat → Prop) (w : World) (G : World → Prop) : Prop := ∀ W, (∀ k, P k → k < w.heap.size → W.heap[k]? = w.heap[k]?) → G W
section
variable {P P' : Nat → Prop} {w w' : World} {G : World → Prop}
theorem Dep.now (h : Dep P w G) : G w := h w fun _ _ _ => rfl
theorem Dep.step (h : Dep P w G) (hk : ∀ k, P k → k < w.heap.size → w'.heap[k]? = w.heap[k]?) (hs : w.heap.size ≤ w'.heap.size) (hP : ∀ k, P k → k < w.heap.size → P' k) : Dep P' w' G :=
  fun W hW => h W fun k hp hl => (hW k (hP k hp hl) (Nat.lt_of_lt_of_le hl hs)).trans (hk k hp hl)
theorem Dep.mono (h : Dep P w G) (hP : ∀ k, P k → k < w.heap.size → P' k) : Dep P' w G := h.step (fun _ _ _ => rfl) (Nat.le_refl _) hP
theorem Dep.st (h : Dep P w G) : ∀ W, Below w.heap.size w W → G W := fun W hW => h W fun k _ hl => hW.block k hl
end
theorem own_keep {w w' : World} {base size : Nat} {t : TypeId} {A : Option Addr} {c n : Nat} {xs : List Value} (h : w.ownsRow base t size (.slice A n c) n xs) (hk : ∀ k, ownA A = some k → w'.heap[k]? = w.heap[k]?) : w'.ownsRow base t size (.slice A n c) n xs := by
  refine ⟨h.1, ?_⟩
  rcases h.2 with hn | ⟨g, cap, cur, h1, h2, h3, h4⟩
  · exact .inl hn
  · refine .inr ⟨g, cap, cur, h1, h2, (hk g ?_).trans h3, h4⟩
    rw [← own_ownA A n c, h1]; rfl
structure GoRow {α : Type} (n : Nat) (t : TypeId) (size : Nat) (f : α → List Value) (R : α → World → Prop) (A : Option Addr) (c : Nat) (L : List α) (W : World) : Prop where
  own : W.ownsRow n t size (.slice A L.length c) L.length (L.flatMap f)
  dep : ∀ x ∈ L, Dep (fun k => n ≤ k ∧ some k ≠ ownA A) W (R x)
section
variable {α : Type} {n : Nat} {t : TypeId} {size : Nat} {f : α → List Value} {R : α → World → Prop} {A : Option Addr} {c : Nat} {L : List α} {W W' : World}
theorem GoRow.rlt (h : GoRow n t size f R A c L W) : ∀ k, ownA A = some k → n ≤ k ∧ k < W.heap.size := fun k hk => h.own.lt k (by rw [own_ownA]; exact hk)
theorem GoRow.keep (h : GoRow n t size f R A c L W) (hs : W.heap.size ≤ W'.heap.size) (hk : ∀ k, n ≤ k → k < W.heap.size → W'.heap[k]? = W.heap[k]?) : GoRow n t size f R A c L W' :=
  ⟨own_keep h.own fun k hA => hk k (h.rlt k hA).1 (h.rlt k hA).2, fun x hx => (h.dep x hx).step (fun k hp hl => hk k hp.1 hl) hs fun k hp _ => hp⟩
theorem GoRow.alloc (h : GoRow n t size f R A c L W) (o : Obj) : GoRow n t size f R A c L (W.alloc o) := h.keep (by simp) fun k _ hl => Below.heap_alloc _ _ _ hl
theorem GoRow.drewN (h : GoRow n t size f R A c L W) (q : Nat) : GoRow n t size f R A c L (W.drewN q) := h.keep (Nat.le_refl _) fun k _ hl => rfl
theorem GoRow.set (h : GoRow n t size f R A c L W) (b i : Nat) (v : Value) (hb : b < n) : GoRow n t size f R A c L (W.setCell ⟨b, i, none⟩ v) :=
  h.keep (by simp [World.setCell]) fun k hk _ => heap_setCell_other _ _ _ _ (fun e => by have e : k = b := e; omega)
theorem GoRow.nil_ (n : Nat) (t : TypeId) (size : Nat) (f : α → List Value) (R : α → World → Prop) (W : World) : GoRow n t size f R none 0 [] W :=
  ⟨⟨by simp, .inl ⟨rfl, rfl⟩⟩, fun x hx => by cases hx⟩
theorem GoRow.push (h : GoRow n t size f R A c L W) {A' : Option Addr} {c' : Nat} {x : α} {o : Obj} (ho : W'.ownsRow n t size (.slice A' (L.length + 1) c') (L.length + 1) (L.flatMap f ++ f x))
    (hg : (W.alloc o).grownBy W' (ownA A)) (hn : Newer (ownA A) (ownA A') (W.heap.size + 1)) (hx : Dep (fun k => n ≤ k ∧ some k ≠ ownA A) W (R x)) : GoRow n t size f R A' c' (L ++ [x]) W' := by
  have hs : W.heap.size ≤ W'.heap.size := Nat.le_trans (by simp) hg.size
  have hd : ∀ G, Dep (fun k => n ≤ k ∧ some k ≠ ownA A) W G → Dep (fun k => n ≤ k ∧ some k ≠ ownA A') W' G := fun G hG => hG.step
    (fun k hp hl => (hg.block k (by simp; omega) hp.2).trans (Below.heap_alloc _ _ _ hl)) hs
    (fun k hp hl => ⟨hp.1, by
      rcases hn with e | ⟨g, e, hgl⟩
      · rw [e]; exact hp.2
      · rw [e]; intro e2; injection e2 with e2; omega⟩)
  refine ⟨?_, fun y hy => ?_⟩
  · rw [List.length_append, List.flatMap_append]
    simpa using ho
  · rcases List.mem_append.1 hy with hy | hy
    · exact hd _ (h.dep y hy)
    · rw [List.mem_singleton] at hy; subst hy; exact hd _ hx
theorem GoRow.rows (h : GoRow n t size f R A c L W) (hl : L.length ≤ 9223372036854775807) : Dep (fun k => n ≤ k) W (RowsAt size f R A L) := fun V hV =>
  ⟨Sl.of_own (own_keep h.own fun k hk => hV k (h.rlt k hk).1 (h.rlt k hk).2), fun x hx => h.dep x hx V fun k hp hk => hV k hp.1 hk, hl⟩
end
section
variable {P : Program} {w0 : World} {ops : Array Oper} {rest : List Oper} {o : Oper} {a : Act} {Q : Exit → Act → World → Prop}
theorem run_pushG (t ty : TypeId) (base : Nat) (e : TypeId) (i : TypeInfo) (z : Value) (size bytes : Nat) (ht : P.underlying t = some (.slice e)) (hi : P.info? e = some i) (hz : i.zero = some z)
    (hsize : i.size = size) (hby : i.bytes = bytes) (hzs : z.cells.size = size) (hsz : 0 < size)
    {A : Option Addr} {c n : Nat} {xs : List Value} (hown : w0.ownsRow base e size (.slice A n c) n xs) (news : List Value) (e' : TypeId) (hl : news.length = size) (h1 : ∀ u ∈ news, u.oneCell' = true)
    (hn : n < 1099511627776) (hb : bytes ≤ 128) (hbase : base ≤ w0.heap.size) :
    ∃ A' c' w', (Builtin.append_ #[t, t] ty #[.slice A n c, .slice (some ⟨w0.heap.size, 0, none⟩) 1 1]).run P (w0.alloc (.cells news.toArray e')) = .ok (.slice A' (n + 1) c') w' ∧
      Hid (w'.ownsRow base e size (.slice A' (n + 1) c') (n + 1) (xs ++ news)) ∧ Hid ((w0.alloc (.cells news.toArray e')).grownBy w' (ownA A)) ∧ Hid (Newer (ownA A) (ownA A') (w0.heap.size + 1)) := by
  obtain ⟨v', w', r1, r2, r3, _, r5⟩ := run_append_own_at (P := P) (w0.alloc (.cells news.toArray e')) base t ty e i z size bytes ht hi hz hsize hby hzs hsz (.slice A n c) n xs (hown.alloc _) ⟨w0.heap.size, 0, none⟩ 1 1 news (by omega)
    (by
      intro j u hu
      have e0 : (⟨w0.heap.size, 0, none⟩ : Addr).add j = ⟨w0.heap.size, 0 + j, none⟩ := by unfold Addr.add; split <;> simp_all
      rw [e0]
      have hb0 : (w0.alloc (.cells news.toArray e')).heap[w0.heap.size]? = some (.cells news.toArray e' (0, 0)) := heap_alloc_new w0 _
      simp only [World.cell?, hb0]
      simpa using hu)
    h1 (by unfold maxLen; omega) (by have : (n + 1) * bytes ≤ (n + 1) * 128 := Nat.mul_le_mul_left _ hb; omega) (by simp; omega)
  obtain ⟨A', c', rfl⟩ := own_shape r2
  rw [own_ownA] at r3 r5
  rw [own_ownA] at r5
  refine ⟨A', c', w', r1, Lib.hid r2, Lib.hid r3, Lib.hid ?_⟩
  rcases r5 with h | h
  · exact .inl h
  · exact .inr ⟨_, h, by simp⟩
theorem wpList_pushG (hgd : o.guard = none) (s x : Operand) (t : TypeId)
    (ho : o.op = .call { callee := .builtin .append, args := #[s, x], argTypes := #[t, t] })
    (base : Nat) (e : TypeId) (i : TypeInfo) (z : Value) (size bytes : Nat) (ht : P.underlying t = some (.slice e)) (hi : P.info? e = some i) (hz : i.zero = some z)
    (hsize : i.size = size) (hby : i.bytes = bytes) (hzs : z.cells.size = size) (hsz : 0 < size)
    {A : Option Addr} {c n : Nat} {xs : List Value} (hown : w0.ownsRow base e size (.slice A n c) n xs) (hs : a.eval s = .slice A n c)
    (news : List Value) (e' : TypeId) (hx : a.eval x = .slice (some ⟨w0.heap.size, 0, none⟩) 1 1) (hl : news.length = size) (h1 : ∀ u ∈ news, u.oneCell' = true)
    (hn : n < 1099511627776) (hb : bytes ≤ 128) (hbase : base ≤ w0.heap.size)
    (h : ∀ A' c' w', Hid (w'.ownsRow base e size (.slice A' (n + 1) c') (n + 1) (xs ++ news)) → Hid ((w0.alloc (.cells news.toArray e')).grownBy w' (ownA A)) → Hid (Newer (ownA A) (ownA A') (w0.heap.size + 1)) → wpList P ops Q rest (a.put o.dst (.slice A' (n + 1) c')) w') :
    wpList P ops Q (o :: rest) a (w0.alloc (.cells news.toArray e')) := by
  refine wpList_plain hgd fun K hK => ?_
  obtain ⟨A', c', w', hr, k1, k2, k3⟩ := run_pushG (P := P) t o.type base e i z size bytes ht hi hz hsize hby hzs hsz hown news e' hl h1 hn hb hbase
  unfold Oper.wp execOp
  simp only [ho, resolve, invoke, builtin, Sem.run_bind, Sem.run_pure, Result.andThen_ok, List.map_toArray, List.map_cons, List.map_nil, hs, hx, hr]
  exact hK _ _ (h A' c' w' k1 k2 k3)
theorem step_pushG {K : Act → World → Prop} {E : Prop} (hgd : o.guard = none) (s x : Operand) (t : TypeId)
    (ho : o.op = .call { callee := .builtin .append, args := #[s, x], argTypes := #[t, t] })
    (base : Nat) (e : TypeId) (i : TypeInfo) (z : Value) (size bytes : Nat) (ht : P.underlying t = some (.slice e)) (hi : P.info? e = some i) (hz : i.zero = some z)
    (hsize : i.size = size) (hby : i.bytes = bytes) (hzs : z.cells.size = size) (hsz : 0 < size)
    {A : Option Addr} {c n : Nat} {xs : List Value} (hown : w0.ownsRow base e size (.slice A n c) n xs) (hs : a.eval s = .slice A n c)
    (news : List Value) (e' : TypeId) (hx : a.eval x = .slice (some ⟨w0.heap.size, 0, none⟩) 1 1) (hl : news.length = size) (h1 : ∀ u ∈ news, u.oneCell' = true)
    (hn : n < 1099511627776) (hb : bytes ≤ 128) (hbase : base ≤ w0.heap.size)
    (h : ∀ A' c' w', Hid (w'.ownsRow base e size (.slice A' (n + 1) c') (n + 1) (xs ++ news)) → Hid ((w0.alloc (.cells news.toArray e')).grownBy w' (ownA A)) → Hid (Newer (ownA A) (ownA A') (w0.heap.size + 1)) → K (a.put o.dst (.slice A' (n + 1) c')) w') :
    if Region.wanted o (yielded ops a.tmps) = true then Oper.wp P o a (w0.alloc (.cells news.toArray e')) K Q else E := by
  have hw : Region.wanted o (yielded ops a.tmps) = true := by simp [Region.wanted, hgd]
  rw [if_pos hw]
  obtain ⟨A', c', w', hr, k1, k2, k3⟩ := run_pushG (P := P) t o.type base e i z size bytes ht hi hz hsize hby hzs hsz hown news e' hl h1 hn hb hbase
  unfold Oper.wp execOp
  simp only [ho, resolve, invoke, builtin, Sem.run_bind, Sem.run_pure, Result.andThen_ok, List.map_toArray, List.map_cons, List.map_nil, hs, hx, hr]
  exact h A' c' w' k1 k2 k3
end
end Go.Proofs.Ytlmkokeapbleoaa
end
section
namespace Go.Proofs.Ytlmkokeapbleoaa
open Go.RowKit
def RetLD (w0 w : World) (r : List Sp) (F : World → Prop) (e : Ending) (w' : World) : Prop := ∃ A c, e = .returned (.slice A r.length c) ∧ Hid (Dep (fun k => w.heap.size ≤ k) w' (Lst A r)) ∧ Hid (St w0 w' (fun W => Lst A r W ∧ F W)) ∧ Hid (Below w.heap.size w w')
section
variable {w0 w : World} {F : World → Prop}
theorem retLD_own {r : List Sp} {e : Ending} {w' : World} (hK : Hid (St w0 w F)) (hp : Plain r) (ho : OwnList w w.heap.size r e w') : RetLD w0 w r F e w' := by
  obtain ⟨v, rfl, hown, hb⟩ := ho
  obtain ⟨A1, c1, rfl⟩ := own_shape hown
  have hd : Dep (fun k => w.heap.size ≤ k) w' (Lst A1 r) := fun V hV => hp.lst (Sl.of_own (own_keep hown fun g hg => by
    have h1 := hown.lt g (by rw [own_ownA]; exact hg)
    exact hV g h1.1 h1.2)) V (Below.refl _ _)
  exact ⟨A1, c1, rfl, Lib.hid hd, Lib.hid (hK.out.add hb hd.st), Lib.hid hb⟩
theorem Meet_stD {A B : Option Addr} {a b r : List Sp} (hK : Hid (St w0 w F)) (ha : ∀ W, F W → Lst A a W) (hb : ∀ W, F W → Lst B b W) (c d : Nat) (hr : Hid (Rep r (fun x => Mem a x ∧ Mem b x))) : Calls Try.prog 41 #[.slice A a.length c, .slice B b.length d] w (RetLD w0 w r F) := by
  have h1 := ha w hK.out.now
  have h2 := hb w hK.out.now
  refine (Meet_any A B _ c _ d a b w h1.sp h2.sp h1.wd h2.wd (by have := h1.len; omega) (by have := h2.len; omega)).mono ?_
  rintro e w1 ⟨r', ho, hr', _⟩
  obtain rfl := Rep.unique hr' hr.out (fun _ => Iff.rfl)
  exact retLD_own hK hr'.1 ho
end
end Go.Proofs.Ytlmkokeapbleoaa
end
section
namespace Go.Proofs.Ytlmkokeapbleoaa
open Go.RowKit Go.Shelf
theorem own_ty {W : World} {m sz n c : Nat} {et : TypeId} {A : Option Addr} {xs : List Value} (h : W.ownsRow m et sz (.slice A n c) n xs) {k : Nat} (hk : ownA A = some k) : m ≤ k ∧ k < W.heap.size ∧ ∃ cur, W.heap[k]? = some (.cells cur et (0, 0)) := by
  have hl := h.lt k (by rw [own_ownA]; exact hk)
  refine ⟨hl.1, hl.2, ?_⟩
  rcases h.2 with ⟨e, _⟩ | ⟨g, cap, cur, e, _, hh, _⟩
  · injection e with e1; subst e1; cases hk
  · injection e with e1; subst e1
    injection hk with hk; simp only at hk; subst hk
    exact ⟨cur, hh⟩
theorem own_apart {W : World} {m m' sz sz' n n' c c' : Nat} {et et' : TypeId} {A A' : Option Addr} {xs xs' : List Value} (h : W.ownsRow m et sz (.slice A n c) n xs) (h' : W.ownsRow m' et' sz' (.slice A' n' c') n' xs') (hne : et ≠ et') : ∀ k, ownA A = some k → ownA A' ≠ some k := fun k hk hk' => by
  obtain ⟨_, _, cur, e⟩ := own_ty h hk
  obtain ⟨_, _, cur', e'⟩ := own_ty h' hk'
  rw [e] at e'
  injection e' with e'; injection e' with _ e'
  exact hne e'
theorem fill_set {G : List (List Sp)} {i : Nat} {s : List Sp} (h : G[i]? = some s) : (G.take i ++ List.replicate (G.length - i) []).set i s = G.take (i + 1) ++ List.replicate (G.length - (i + 1)) [] := by
  have hl := (List.getElem?_eq_some_iff.1 h).1
  have h1 : (G.take i).length = i := by rw [List.length_take]; omega
  rw [List.set_append_right _ _ (by omega), h1, Nat.sub_self, take_snoc? h]
  obtain ⟨n, hn⟩ : ∃ n, G.length - i = n + 1 := ⟨G.length - i - 1, by omega⟩
  rw [hn, List.replicate_succ, List.set_cons_zero, show G.length - (i + 1) = n by omega]
  simp
theorem St.here {w0 w : World} {F : World → Prop} (h : Hid (St w0 w F)) : Hid (St w w F) := Lib.hid ⟨h.out.1, Below.refl _ _⟩
theorem St.join {w0 w w' : World} {F G : World → Prop} (h : Hid (St w0 w F)) (k : Hid (St w w' G)) : Hid (St w0 w' G) := Lib.hid ⟨k.out.1, below_to h.out.2 k.out.2⟩
def MsB (mb n : Nat) (f : Nat → Int) (W : World) : Prop := W.heap[mb]? = some (.cells ((List.range (n + 1)).map fun j => Value.int .i64 (f j)).toArray 3 (0, 0))
section
variable {mb n : Nat} {f g : Nat → Int} {W W' : World}
theorem MsB.congr (h : MsB mb n f W) (hf : ∀ j, j ≤ n → f j = g j) : MsB mb n g W := by
  have e : ((List.range (n + 1)).map fun j => Value.int .i64 (f j)) = (List.range (n + 1)).map fun j => Value.int .i64 (g j) := List.map_congr_left fun j hj => by rw [hf j (by have := List.mem_range.1 hj; omega)]
  unfold MsB at h ⊢
  rw [← e]; exact h
theorem MsB.cell (h : MsB mb n f W) {j : Nat} (hj : j ≤ n) : W.cell? ⟨mb, j, none⟩ = some (.int .i64 (f j)) := by
  unfold MsB at h
  simp only [World.cell?, h]
  simp [List.getElem?_range (show j < n + 1 by omega)]
theorem MsB.frozen (h : MsB mb n f W) (j : Nat) : W.frozen? ⟨mb, j, none⟩ = false := by
  unfold MsB at h
  simp [World.frozen?, h]
theorem MsB.set (h : MsB mb n f W) {k : Nat} (v : Int) : MsB mb n (fun j => if j = k then v else f j) (W.setCell ⟨mb, k, none⟩ (.int .i64 v)) := by
  unfold MsB at h ⊢
  rw [heap_setCell_same W mb k _ _ _ h]
  congr 2
  apply Array.ext'
  simp only [List.setIfInBounds_toArray]
  apply List.ext_getElem?
  intro i
  by_cases hi : k = i
  · subst hi
    by_cases hl : k < n + 1
    · rw [List.getElem?_set_self (by simpa using hl)]; simp [List.getElem?_range hl]
    · rw [List.getElem?_eq_none (by simp; omega), List.getElem?_eq_none (by simp; omega)]
  · rw [List.getElem?_set_ne hi]
    simp only [List.getElem?_map]
    rcases hr : (List.range (n + 1))[i]? with _ | j
    · rfl
    · obtain ⟨hl, he⟩ := List.getElem?_eq_some_iff.1 hr
      rw [List.getElem_range] at he
      subst he
      simp only [Option.map_some]
      rw [if_neg (fun e => hi e.symm)]
theorem MsB.keep (h : MsB mb n f W) (hk : W'.heap[mb]? = W.heap[mb]?) : MsB mb n f W' := hk.trans h
theorem MsB.made (W : World) : MsB W.heap.size n (fun _ => 0) (W.alloc (.cells (madeCells #[.int .i64 0] (n + 1)) 3)) := by
  have h := heap_alloc_new W (.cells (madeCells #[.int .i64 0] (n + 1)) 3)
  unfold MsB
  rw [h]
  congr 2
  apply Array.ext'
  rw [toList_madeCells_one, List.map_const']
  simp
end
theorem IntsAt.cell {pb po : Nat} {l : List Int} {V : World} (h : IntsAt (some ⟨pb, po, none⟩) l V) {k : Nat} {x : Int} (hx : l[k]? = some x) : V.cell? ⟨pb, po + k, none⟩ = some (.int .i64 x) := by
  obtain ⟨b, off, y, hA, hy, _, hc⟩ := h.at_ (j := k) (List.getElem?_eq_some_iff.1 hx).1
  injection hA with hA; injection hA with e1 e2
  subst e1; subst e2
  rw [hx] at hy; injection hy with hy; subst hy
  exact hc
theorem Items.cell {α : Type} {R : Option Addr → List α → World → Prop} {qb qo n : Nat} {L : List (Item α)} {V : World} (h : Items R (some ⟨qb, qo, none⟩) n L V) {k : Nat} {a : Option Addr} {c : Nat} {l : List α} (hx : L[k]? = some (a, c, l)) : V.cell? ⟨qb, qo + k, none⟩ = some (.slice a l.length c) ∧ R a l V := by
  obtain ⟨b, off, a', c', l', hA, hy, hc, hR⟩ := h.at_ (j := k) (by have := (List.getElem?_eq_some_iff.1 hx).1; rw [← h.len]; exact this)
  injection hA with hA; injection hA with e1 e2
  subst e1; subst e2
  rw [hx] at hy; injection hy with hy; injection hy with e3 e4; injection e4 with e4 e5
  subst e3; subst e4; subst e5
  exact ⟨hc, hR⟩
theorem infoIy : (Try.prog.info? 3).map (fun i => (i.zero, i.size, i.bytes)) = some (some (.int .i64 0), 1, 8) := by kernel_rfl
structure RwB (bb base : Nat) (B : List (Item Sp)) (V : World) : Prop where
  blk : V.heap[bb]? = some (.cells (icells B).toArray 36 (0, 0))
  sets : ∀ x ∈ B, Dep (fun k => base ≤ k ∧ k ≠ bb) V (Lst x.1 x.2.2)
section
variable {bb base : Nat} {B : List (Item Sp)} {V V2 : World}
theorem lst_nil (V : World) : Lst none [] V := ⟨Sl.nil_ _ _ _, fun p hp => (by cases hp), by simp⟩
theorem RwB.start (V : World) (n : Nat) : RwB V.heap.size V.heap.size (List.replicate n (none, 0, [])) (V.alloc (.cells (madeCells #[.slice none 0 0] n) 36)) := by
  refine ⟨?_, fun x hx => ?_⟩
  · rw [heap_alloc_new V _]
    congr 2
    apply Array.ext'
    rw [toList_madeCells_one]
    simp [icells, ival]
  · obtain ⟨_, rfl⟩ := List.mem_replicate.1 hx
    exact fun U _ => lst_nil U
theorem RwB.below (h : RwB bb base B V) (hb : Below V.heap.size V V2) : RwB bb base B V2 :=
  ⟨(hb.block bb (Array.getElem?_eq_some_iff.1 h.blk).1).trans h.blk, fun x hx => (h.sets x hx).step (fun k _ hl => hb.block k hl) hb.size (fun k hp _ => hp)⟩
theorem RwB.set (h : RwB bb base B V) (hbs : base ≤ V.heap.size) (hb : Below V.heap.size V V2) {i : Nat} {A : Option Addr} {c : Nat} {s : List Sp} (hs : Dep (fun k => V.heap.size ≤ k) V2 (Lst A s)) : RwB bb base (B.set i (A, c, s)) (V2.setCell ⟨bb, i, none⟩ (.slice A s.length c)) := by
  have hbl := (Array.getElem?_eq_some_iff.1 h.blk).1
  have hst : ∀ k, k ≠ bb → (V2.setCell ⟨bb, i, none⟩ (.slice A s.length c)).heap[k]? = V2.heap[k]? := fun k hk => heap_setCell_other _ _ _ _ hk
  refine ⟨?_, fun x hx => ?_⟩
  · rw [heap_setCell_same V2 bb i _ _ _ ((hb.block bb hbl).trans h.blk)]
    congr 2
    apply Array.ext'
    simp only [List.setIfInBounds_toArray]
    exact icells_set B i (A, c, s)
  · rcases List.mem_or_eq_of_mem_set hx with hx | rfl
    · exact ((h.sets x hx).step (fun k _ hl => hb.block k hl) hb.size (fun k hp _ => hp)).step (fun k hp _ => hst k hp.2) (by simp) (fun k hp _ => hp)
    · exact hs.step (fun k hp _ => hst k (by omega)) (by simp) (fun k hp _ => by omega)
theorem RwB.cell (h : RwB bb base B V) {i : Nat} (hi : i < B.length) : ∃ v, V.cell? ⟨bb, i, none⟩ = some v ∧ V.frozen? ⟨bb, i, none⟩ = false := by
  have hb := h.blk
  refine ⟨ival B[i], ?_, by simp [World.frozen?, hb]⟩
  simp [World.cell?, hb, icells, hi]
theorem RwB.row (h : RwB bb base B V) (hbb : base ≤ bb) (hl : B.length ≤ 1048576) : Dep (fun k => base ≤ k) V (LLx (some ⟨bb, 0, none⟩) B) := fun U hU => by
  have hbl := (Array.getElem?_eq_some_iff.1 h.blk).1
  have hb := (hU bb hbb hbl).trans h.blk
  refine ⟨⟨⟨by rw [icells_length, Nat.mul_one], fun _ => ⟨bb, 0, rfl, fun j u hu => ?_⟩⟩, fun x hx => h.sets x hx U fun k hp hk => hU k hp.1 hk⟩, by omega⟩
  rw [Nat.zero_add]
  simp [World.cell?, hb, hu]
end
theorem infoHdy : (Try.prog.info? 36).map (fun i => (i.zero, i.size, i.bytes)) = some (some (.slice none 0 0), 1, 24) := by kernel_rfl
end Go.Proofs.Ytlmkokeapbleoaa
end
section
namespace Go.Proofs.Ytlmkokeapbleoaa
open Go.RowKit Go.ChangeMaps Go.MapKept Go.WideShapes
open Go.WideElems (Fit rd rg pl rd_key rd_val rg_of)
open Go.Maps (Keyed)
def R0 (_ : Value) : Option (DataW Unit × List MemPlace) := some (.nil, [])
def mkey (e : MapEntry) : Value × Value := (e.key, e.val)
def MapIs (P : Program) (kt : TypeId) (b : Nat) (M : List (Value × Value)) (w : World) : Prop :=
  ∃ es clock, w.heap[b]? = some (.map es clock) ∧ Fit P kt R0 es clock ∧ (M.map (·.1)).Nodup ∧ ∀ p, p ∈ M ↔ ∃ e ∈ es.toList, mkey e = p
def MapRng (P : Program) (kt : TypeId) (b r : Nat) (R : List (Value × Value)) (w : World) : Prop :=
  ∃ es clock since seen c0, w.heap[b]? = some (.map es clock) ∧ Fit P kt R0 es clock ∧ w.heap[r]? = some (.mapIter (some b) since seen c0) ∧ (∀ x ∈ es.toList, x.born < since) ∧ since ≤ c0 ∧ since ≤ clock ∧
    (R.map (·.1)).Nodup ∧ ∀ p, p ∈ R ↔ ∃ e ∈ es.toList, seen.contains e.born = false ∧ mkey e = p
noncomputable def mapPut (M : List (Value × Value)) (k v : Value) : List (Value × Value) := by classical exact (k, v) :: M.filter fun p => decide (p.1 ≠ k)
section
variable {P : Program} {kt : TypeId} {w w' : World} {b r : Nat} {M R : List (Value × Value)}
theorem MapIs.lt (h : MapIs P kt b M w) : b < w.heap.size := by
  obtain ⟨es, clock, hb, _⟩ := h
  exact (Array.getElem?_eq_some_iff.1 hb).1
theorem MapIs.same (h : MapIs P kt b M w) (hb : w'.heap[b]? = w.heap[b]?) : MapIs P kt b M w' := by
  obtain ⟨es, clock, h1, h2⟩ := h
  exact ⟨es, clock, hb.trans h1, h2⟩
theorem MapIs.made (w : World) : MapIs P kt w.heap.size [] (w.alloc (.map #[] 0)) :=
  ⟨#[], 0, (MapKept.heap_alloc w _).1, ⟨by simp, stamped_empty 0, by simp⟩, List.nodup_nil, by simp⟩
theorem nodup_of_map {α β : Type} (f : α → β) {l : List α} (h : (l.map f).Nodup) : l.Nodup := by
  unfold List.Nodup at *
  rw [List.pairwise_map] at h
  exact h.imp fun h e => h (by rw [e])
theorem fit_nodup {es : Array MapEntry} {clock : Nat} (F : Fit P kt R0 es clock) : (es.toList.map (·.key)).Nodup := by
  have := ((stamped_iff es clock).1 F.stamped).2.2
  unfold List.Nodup
  rw [List.pairwise_map]
  exact this
theorem fit_inj {es : Array MapEntry} {clock : Nat} (F : Fit P kt R0 es clock) {x y : MapEntry} (hx : x ∈ es.toList) (hy : y ∈ es.toList) (h : x.key = y.key) : x = y :=
  entry_eq_of_key ((stamped_iff es clock).1 F.stamped).2.2 hx hy h
theorem MapIs.perm (h : MapIs P kt b M w) : ∃ es clock, w.heap[b]? = some (.map es clock) ∧ M.length = es.size := by
  obtain ⟨es, clock, h1, F, h3, h4⟩ := h
  refine ⟨es, clock, h1, ?_⟩
  have hn : (es.toList.map mkey).Nodup := by
    have := fit_nodup F
    refine nodup_of_map Prod.fst ?_
    rw [List.map_map]; exact this
  have hp : M.Perm (es.toList.map mkey) := (List.perm_ext_iff_of_nodup (nodup_of_map _ h3) hn).2 fun p => by rw [h4, List.mem_map]
  rw [hp.length_eq]; simp
theorem MapIs.len {t e ty : TypeId} (h : MapIs P kt b M w) (ht : P.underlying t = some (.map kt e)) : (Builtin.len_ #[t] ty #[.map (some b)]).run P w = .ok (.int .i64 M.length) w := by
  obtain ⟨es, clock, hb, hl⟩ := h.perm
  rw [hl]
  simp [Builtin.len_, run_underlying ht, MapKept.run_getObj_map hb, goInt, Result.andThen]
theorem MapIs.look {t e : TypeId} (c : Bool) (h : MapIs P kt b M w) (K : Keyed P kt) (ht : P.underlying t = some (.map kt e)) {z : Value} (hz : (zeroValue e).run P w = .ok z w) {key : Value} {kl : Lit} (hkey : keyOf P kt key = some kl) :
    ((∀ p ∈ M, p.1 ≠ key) ∧ (Instr.lookup t (.map (some b)) key c).run P w = .ok (if c then .tuple #[z, .bool false] else z) w) ∨
    ∃ v, (key, v) ∈ M ∧ (Instr.lookup t (.map (some b)) key c).run P w = .ok (if c then .tuple #[v, .bool true] else v) w := by
  obtain ⟨es, clock, hb, F, h3, h4⟩ := h
  rcases Maps.fit_look c K ht hz hb F hkey with ⟨hrun, hno, _⟩ | ⟨e0, y, he, hk, hrun, _⟩
  · refine .inl ⟨fun p hp => ?_, hrun⟩
    obtain ⟨e, he, rfl⟩ := (h4 p).1 hp
    exact hno e he
  · exact .inr ⟨e0.val, (h4 _).2 ⟨e0, he, by rw [← hk]; rfl⟩, hrun⟩
theorem MapIs.put {t e : TypeId} (h : MapIs P kt b M w) (K : Keyed P kt) (ht : P.underlying t = some (.map kt e)) (hn : M.length < maxLen) {key : Value} (val : Value) {kl : Lit} (hkey : keyOf P kt key = some kl) :
    ∃ w', (Instr.mapUpdate t (.map (some b)) key val).run P w = .ok () w' ∧ MapIs P kt b (mapPut M key val) w' ∧ w.grownBy w' (some b) ∧ w'.heap.size = w.heap.size := by
  obtain ⟨es0, cl0, hb0, hl0⟩ := h.perm
  obtain ⟨es, clock, hb, F, h3, h4⟩ := h
  rw [hb] at hb0
  injection hb0 with hb0
  injection hb0 with hb1 hb2
  subst hb1
  obtain ⟨es', clock', hrun, F', hsort, _, _, hwho⟩ := Maps.fit_store (R' := R0) K ht hb F (by rw [← hl0]; exact hn) (fun _ _ _ _ hz => hz) hkey (val := val) (yv := (.nil, [])) rfl
  have hkeys : ∀ kl', (∃ x ∈ es'.toList, (rg P kt R0 x).1 = kl') ↔ (kl' = kl ∨ ∃ x ∈ es.toList, (rg P kt R0 x).1 = kl' ∧ notKey kl (rg P kt R0 x) = true) := fun kl' => by
    have p1 := sorted_perm (es'.toList.map (rg P kt R0))
    have p2 := sorted_perm (es.toList.map (rg P kt R0))
    constructor
    · rintro ⟨x, hx, rfl⟩
      have hm := p1.mem_iff.2 (List.mem_map.2 ⟨x, hx, rfl⟩)
      rw [hsort] at hm
      unfold putKey at hm
      rcases List.mem_cons.1 ((insert_perm _ _).mem_iff.1 hm) with hm | hm
      · exact .inl (by rw [hm])
      · obtain ⟨hm1, hm2⟩ := List.mem_filter.1 hm
        obtain ⟨y, hy, he⟩ := List.mem_map.1 (p2.mem_iff.1 hm1)
        exact .inr ⟨y, hy, by rw [he], by rw [he]; exact hm2⟩
    · intro hk
      have : ∃ d, (kl', d) ∈ es'.toList.map (rg P kt R0) := by
        rcases hk with rfl | ⟨x, hx, rfl, hx2⟩
        · exact ⟨_, p1.mem_iff.1 (by rw [hsort]; unfold putKey; exact (insert_perm _ _).mem_iff.2 (List.mem_cons_self ..))⟩
        · refine ⟨(rg P kt R0 x).2, p1.mem_iff.1 ?_⟩
          rw [hsort]; unfold putKey
          exact (insert_perm _ _).mem_iff.2 (List.mem_cons_of_mem _ (List.mem_filter.2 ⟨p2.mem_iff.2 (List.mem_map.2 ⟨x, hx, rfl⟩), hx2⟩))
      obtain ⟨d, hd⟩ := this
      obtain ⟨x, hx, he⟩ := List.mem_map.1 hd
      exact ⟨x, hx, by rw [he]⟩
  have hrgk : ∀ {E : Array MapEntry} {c : Nat} (F : Fit P kt R0 E c) x, x ∈ E.toList → keyOf P kt x.key = some (rg P kt R0 x).1 := fun F x hx => by
    obtain ⟨y, hy⟩ := F.reads x hx
    rw [rg_of hy]; exact rd_key hy
  have hold : ∀ x ∈ es.toList, x.key ≠ key → x ∈ es'.toList := fun x hx hne => by
    have hnk : notKey kl (rg P kt R0 x) = true := (Maps.notKey_iff (K.key hkey)).2 fun e => hne (K.inj (hrgk F x hx) (by rw [e]; exact hkey))
    obtain ⟨y, hy, he⟩ := (hkeys _).2 (.inr ⟨x, hx, rfl, hnk⟩)
    have hyk : y.key = x.key := K.inj (hrgk F' y hy) (by rw [he]; exact hrgk F x hx)
    rcases hwho y hy with ⟨h1, _⟩ | ⟨h1, _⟩
    · rw [← fit_inj F h1 hx hyk]; exact hy
    · exact absurd (hyk.symm.trans h1) hne
  obtain ⟨y0, hy0, he0⟩ := (hkeys kl).2 (.inl rfl)
  have hy0k : y0.key = key := K.inj (hrgk F' y0 hy0) (by rw [he0]; exact hkey)
  have hy0v : y0.val = val := by
    rcases hwho y0 hy0 with ⟨h1, h2⟩ | ⟨_, h2⟩
    · exact absurd hy0k h2
    · exact h2
  refine ⟨_, hrun, ⟨es', clock', heap_setBlock_same hb _, F', ?_, fun p => ?_⟩, ⟨rfl, rfl, rfl, by simp [setBlock], fun i _ hi => heap_setBlock_other hb _ (fun e => hi (by rw [e]))⟩, by simp [setBlock]⟩
  · unfold mapPut
    rw [List.map_cons, List.nodup_cons]
    refine ⟨fun hm => ?_, h3.sublist (List.Sublist.map _ (List.filter_sublist))⟩
    obtain ⟨p, hp, he⟩ := List.mem_map.1 hm
    have := (List.mem_filter.1 hp).2
    simp at this
    exact this he
  · unfold mapPut
    rw [List.mem_cons, List.mem_filter]
    constructor
    · rintro (rfl | ⟨hp, hk⟩)
      · exact ⟨y0, hy0, by unfold mkey; rw [hy0k, hy0v]⟩
      · obtain ⟨x, hx, rfl⟩ := (h4 p).1 hp
        exact ⟨x, hold x hx (by classical exact of_decide_eq_true hk), rfl⟩
    · rintro ⟨x, hx, rfl⟩
      rcases hwho x hx with ⟨h1, h2⟩ | ⟨h1, h2⟩
      · exact .inr ⟨(h4 _).2 ⟨x, h1, rfl⟩, by classical exact decide_eq_true h2⟩
      · exact .inl (by unfold mkey; rw [h1, h2])
theorem MapIs.range {t e : TypeId} (h : MapIs P kt b M w) (ht : P.underlying t = some (.map kt e)) :
    (Instr.range t (.map (some b))).run P w = .ok (.pointer (some ⟨w.heap.size, 0, none⟩)) (w.alloc (.mapIter (some b) (h.choose_spec.choose) #[] (h.choose_spec.choose))) ∧ MapRng P kt b w.heap.size M (w.alloc (.mapIter (some b) (h.choose_spec.choose) #[] (h.choose_spec.choose))) := by
  have hlt := h.lt
  obtain ⟨hb, F, h3, h4⟩ := h.choose_spec.choose_spec
  refine ⟨run_range_map w t kt e b _ _ ht hb, h.choose, _, _, #[], _, ((MapKept.heap_alloc w _).2 b hlt).trans hb, F, (MapKept.heap_alloc w _).1, F.stamped.1, Nat.le_refl _, Nat.le_refl _, h3, fun p => ?_⟩
  rw [h4 p]
  simp
theorem MapRng.ne (h : MapRng P kt b r R w) : r ≠ b := by
  obtain ⟨es, clock, since, seen, c0, hb, _, hr, _⟩ := h
  rintro rfl
  rw [hb] at hr; cases hr
theorem MapRng.same (h : MapRng P kt b r R w) (hb : w'.heap[b]? = w.heap[b]?) (hr : w'.heap[r]? = w.heap[r]?) : MapRng P kt b r R w' := by
  obtain ⟨es, clock, since, seen, c0, h1, h2, h3, h4⟩ := h
  exact ⟨es, clock, since, seen, c0, hb.trans h1, h2, hr.trans h3, h4⟩
theorem MapRng.next (h : MapRng P kt b r R w) (ty : TypeId) :
    (R = [] ∧ (Instr.next (.pointer (some ⟨r, 0, none⟩)) false ty).run P w = .ok (.tuple #[.bool false]) w) ∨
    ∃ p R' w', R.Perm (p :: R') ∧ (Instr.next (.pointer (some ⟨r, 0, none⟩)) false ty).run P w = .ok (.tuple #[.bool true, p.1, p.2]) w' ∧ MapRng P kt b r R' w' ∧ w.grownBy w' (some r) ∧ w'.heap.size = w.heap.size ∧
      (Instr.entry (.pointer (some ⟨r, 0, none⟩))).run P w' = .ok (.tuple #[p.1, p.2]) w' := by
  have hne := h.ne
  obtain ⟨es, clock, since, seen, c0, hb, F, hr, hold, hsc, hsk, hnd, hm⟩ := h
  rcases run_next_at (P := P) w ty r b since c0 seen es clock hr hb hold hsc with ⟨h0, hrun⟩ | ⟨e, he, w1, hal, hrun⟩
  · refine .inl ⟨List.eq_nil_iff_forall_not_mem.2 fun p hp => ?_, hrun⟩
    obtain ⟨x, hx, hs, _⟩ := (hm p).1 hp
    rw [all_seen es seen h0 x hx] at hs
    cases hs
  · obtain ⟨hem, hes⟩ := mem_left he
    have hr1 : w1.heap[r]? = some (.mapIter (some b) since seen c0) := by rcases hal with rfl | rfl <;> exact hr
    have hb1 : w1.heap[b]? = some (.map es clock) := by rcases hal with rfl | rfl <;> exact hb
    have hset := heap_set (o' := .mapIter (some b) since (seen.push e.born) clock) hr1
    have hb' : (setBlock w1 r (.mapIter (some b) since (seen.push e.born) clock)).heap[b]? = some (.map es clock) := (hset.2 b (fun e1 => hne e1.symm)).trans hb1
    have hst := (stamped_iff es clock).1 F.stamped
    have hpm : mkey e ∈ R := (hm _).2 ⟨e, hem, hes, rfl⟩
    classical
    have hperm := List.perm_cons_erase hpm
    have hnd2 : ((mkey e :: R.erase (mkey e)).map (·.1)).Nodup := (hperm.map (·.1)).nodup_iff.1 hnd
    rw [List.map_cons, List.nodup_cons] at hnd2
    refine .inr ⟨mkey e, R.erase (mkey e), setBlock w1 r (.mapIter (some b) since (seen.push e.born) clock), hperm, hrun, ⟨es, clock, since, seen.push e.born, clock, hb', F, hset.1, hold, hsk, hsk, hnd2.2, fun p => ?_⟩, ?_, ?_,
      run_entry_at _ r b since seen es clock e hset.1 hb' hem hst.2.1⟩
    · have hRn : R.Nodup := nodup_of_map _ hnd
      rw [hRn.mem_erase_iff, hm p]
      constructor
      · rintro ⟨hpe, x, hx, hs, rfl⟩
        refine ⟨x, hx, ?_, rfl⟩
        rw [contains_push, hs, Bool.false_or, beq_eq_false_iff_ne]
        intro hbn
        exact hpe (by rw [born_inj hst.2.1 hx hem hbn])
      · rintro ⟨x, hx, hs, rfl⟩
        rw [contains_push, Bool.or_eq_false_iff, beq_eq_false_iff_ne] at hs
        refine ⟨fun hk => hs.2 ?_, x, hx, hs.1, rfl⟩
        have := fit_inj F hx hem (congrArg Prod.fst hk)
        rw [this]
    · rcases hal with rfl | rfl <;> exact ⟨rfl, rfl, rfl, by simp [setBlock], fun i _ hi => hset.2 i (fun e1 => hi (by rw [e1]))⟩
    · rcases hal with rfl | rfl <;> simp [setBlock]
theorem MapIs.rng {t e : TypeId} (h : MapIs P kt b M w) (ht : P.underlying t = some (.map kt e)) :
    ∃ w', (Instr.range t (.map (some b))).run P w = .ok (.pointer (some ⟨w.heap.size, 0, none⟩)) w' ∧ MapRng P kt b w.heap.size M w' ∧ Below w.heap.size w w' ∧ w'.heap.size = w.heap.size + 1 := by
  obtain ⟨h1, h2⟩ := h.range ht
  exact ⟨_, h1, h2, (Below.refl _ _).alloc (Nat.le_refl _) _, by simp⟩
end
end Go.Proofs.Ytlmkokeapbleoaa
end
section
namespace Go.Proofs.Ytlmkokeapbleoaa
open Go.RowKit
theorem yieldsIf_lookup {P : Program} {ops : Array Oper} {S : World → Prop} {o : Oper} {a : Act} {t : TypeId} {m x : Operand} {mv kv v : Value} (hw : Region.wanted o (yielded ops a.tmps) = true) (hop : o.op = Op.lookup t m x false) (hm : a.eval m = mv) (hx : a.eval x = kv)
    (h : ∀ w, S w → (Instr.lookup t mv kv false).run P w = .ok v w) : YieldsIf P ops S o v a :=
  .inl ⟨hw, fun w hS => by simp [execOp, hop, hm, hx, h w hS, Result.andThen]⟩
theorem wp_mapUpdate {P : Program} {o : Oper} {a : Act} {t : TypeId} {m x y : Operand} {mv kv v : Value} {w w' : World} {K : Act → World → Prop} {Q : Exit → Act → World → Prop} (hop : o.op = Op.mapUpdate t m x y) (hm : a.eval m = mv) (hx : a.eval x = kv) (hy : a.eval y = v)
    (h : (Instr.mapUpdate t mv kv v).run P w = .ok () w') (hK : K (a.put o.dst undef) w') : Oper.wp P o a w K Q := by
  unfold Oper.wp
  simp [execOp, hop, hm, hx, hy, h, Result.andThen]
  exact hK
section
variable {α : Type} {T : TypeId} {size : Nat} {f : α → List Value}
structure MapRw (T : TypeId) (size : Nat) (f : α → List Value) (mb base : Nat) (g : Int → List α) (L : List (Int × Item α)) (W : World) : Prop where
  mp : MapIs Try.prog 3 mb (L.map fun x => ((.int .i64 x.1 : Value), ival x.2)) W
  sets : ∀ x ∈ L, W.ownsRow base T size (.slice x.2.1 x.2.2.2.length x.2.2.1) x.2.2.2.length (x.2.2.2.flatMap f)
  apart : ∀ x ∈ L, ∀ y ∈ L, x.1 ≠ y.1 → ∀ k, ownA x.2.1 = some k → ownA y.2.1 ≠ some k
  val : ∀ x ∈ L, x.2.2.2 = g x.1
  none : ∀ n, (∀ x ∈ L, x.1 ≠ n) → g n = []
variable {mb base : Nat} {g : Int → List α} {L : List (Int × Item α)} {W W' : World}
theorem MapRw.start (W : World) (base : Nat) : MapRw T size f W.heap.size base (fun _ => []) [] (W.alloc (.map #[] 0)) :=
  ⟨MapIs.made W, fun x hx => (by cases hx), fun x hx => (by cases hx), fun x hx => (by cases hx), fun _ _ => rfl⟩
theorem MapRw.keep (h : MapRw T size f mb base g L W) (hk : ∀ k, (k = mb ∨ base ≤ k) → k < W.heap.size → W'.heap[k]? = W.heap[k]?) : MapRw T size f mb base g L W' :=
  ⟨h.mp.same (hk mb (.inl rfl) h.mp.lt), fun x hx => own_keep (h.sets x hx) fun k hA => hk k (.inr (own_ty (h.sets x hx) hA).1) (own_ty (h.sets x hx) hA).2.1, h.apart, h.val, h.none⟩
theorem MapRw.below (h : MapRw T size f mb base g L W) (hb : Below W.heap.size W W') : MapRw T size f mb base g L W' := h.keep fun k _ hl => hb.block k hl
theorem mapRw_keys {P : Program} {kt : TypeId} {w : World} (h : MapIs P kt mb (L.map fun x => ((.int .i64 x.1 : Value), ival x.2)) w) : (L.map (·.1)).Nodup := by
  obtain ⟨es, clock, _, _, h3, _⟩ := h
  rw [List.map_map] at h3
  unfold List.Nodup at *
  rw [List.pairwise_map] at *
  exact h3.imp fun {a b} h e => h (congrArg (Value.int .i64) e)
theorem nodup_fst {α β : Type} {L : List (α × β)} (h : (L.map (·.1)).Nodup) {x y : α × β} (hx : x ∈ L) (hy : y ∈ L) (e : x.1 = y.1) : x = y := by
  induction L with
  | nil => cases hx
  | cons z L ih =>
    rw [List.map_cons, List.nodup_cons] at h
    rcases List.mem_cons.1 hx with hx1 | hx1
    · rcases List.mem_cons.1 hy with hy1 | hy1
      · rw [hx1, hy1]
      · exact absurd (List.mem_map.2 ⟨y, hy1, by rw [← e, hx1]⟩) h.1
    · rcases List.mem_cons.1 hy with hy1 | hy1
      · exact absurd (List.mem_map.2 ⟨x, hx1, by rw [e, hy1]⟩) h.1
      · exact ih h.2 hx1 hy1
theorem MapRw.look {mt et : TypeId} (h : MapRw T size f mb base g L W) {n : Int} (hn : I64 n) (hmt : Try.prog.underlying mt = some (.map 3 et)) (hz : ∀ W : World, (zeroValue et).run Try.prog W = .ok (.slice Option.none 0 0) W) :
    ∃ A c, ((∃ y ∈ L, y = (n, (A, c, g n))) ∨ ((∀ y ∈ L, y.1 ≠ n) ∧ A = Option.none ∧ c = 0 ∧ g n = [])) ∧ W.ownsRow base T size (.slice A (g n).length c) (g n).length ((g n).flatMap f) ∧
      ∀ W', W'.heap[mb]? = W.heap[mb]? → (Instr.lookup mt (.map (some mb)) (.int .i64 n) false).run Try.prog W' = .ok (.slice A (g n).length c) W' := by
  have hwf : (Lit.int .i64 n).wf = true := by
    unfold I64 at hn
    simp [Lit.wf, IntKind.min, IntKind.max, IntKind.signed, IntKind.bits]; omega
  have hk : keyOf Try.prog 3 (.int .i64 n) = some (.int .i64 n) := Maps.keyOf_int_mk Try.underlying3 hwf
  by_cases hex : ∃ y ∈ L, y.1 = n
  · obtain ⟨⟨n', A, c, l⟩, hy, rfl⟩ := hex
    have hl : l = g n' := h.val _ hy
    subst hl
    refine ⟨A, c, .inl ⟨_, hy, rfl⟩, h.sets _ hy, fun W' hW => ?_⟩
    rcases (h.mp.same hW).look false (Maps.int_keyed Try.underlying3) hmt (hz W') hk with ⟨hno, _⟩ | ⟨v, hv, hrun⟩
    · exact absurd rfl (hno _ (List.mem_map.2 ⟨_, hy, rfl⟩))
    · obtain ⟨z, hz, hze⟩ := List.mem_map.1 hv
      have h1 : z.1 = n' := by have := congrArg Prod.fst hze; simpa using this
      obtain rfl := nodup_fst (mapRw_keys h.mp) hz hy h1
      have h2 : ival (A, c, g n') = v := congrArg Prod.snd hze
      rw [hrun, ← h2]; rfl
  · have hno : ∀ y ∈ L, y.1 ≠ n := fun y hy e => hex ⟨y, hy, e⟩
    have hg := h.none n hno
    refine ⟨Option.none, 0, .inr ⟨hno, rfl, rfl, hg⟩, by rw [hg]; exact World.ownsRow_nil _ _ _ _, fun W' hW => ?_⟩
    rw [hg]
    rcases (h.mp.same hW).look false (Maps.int_keyed Try.underlying3) hmt (hz W') hk with ⟨_, hrun⟩ | ⟨v, hv, _⟩
    · rw [hrun]; rfl
    · obtain ⟨z, hz, hze⟩ := List.mem_map.1 hv
      have h1 : z.1 = n := by have := congrArg Prod.fst hze; simpa using this
      exact absurd h1 (hno z hz)
def putG (g : Int → List α) (n : Int) (x : α) : Int → List α := fun m => if m = n then g n ++ [x] else g m
theorem mapPut_rw (L : List (Int × Item α)) (n : Int) (s : Item α) : mapPut (L.map fun x => ((.int .i64 x.1 : Value), ival x.2)) (.int .i64 n) (ival s) = ((n, s) :: L.filter fun x => decide (x.1 ≠ n)).map fun x => ((.int .i64 x.1 : Value), ival x.2) := by
  classical
  unfold mapPut
  rw [List.map_cons]
  congr 1
  rw [List.filter_map]
  congr 1
  refine List.filter_congr fun x _ => ?_
  show decide _ = decide _
  rw [decide_eq_decide]
  simp
theorem MapRw.step {W7 W8 W9 : World} {ob : Obj} {A A' : Option Addr} {c c' : Nat} {x : α} {n : Int} (h : MapRw T size f mb base g L W) (hmb : mb < base) (hbW : base ≤ W.heap.size)
    (h7 : Below W.heap.size W W7) (hl : (∃ y ∈ L, y = (n, (A, c, g n))) ∨ ((∀ y ∈ L, y.1 ≠ n) ∧ A = Option.none ∧ c = 0 ∧ g n = []))
    (HO : W8.ownsRow base T size (.slice A' ((g n).length + 1) c') ((g n).length + 1) ((g n).flatMap f ++ f x)) (HG : (W7.alloc ob).grownBy W8 (ownA A)) (HN : Newer (ownA A) (ownA A') (W7.heap.size + 1))
    (hM : MapIs Try.prog 3 mb (mapPut (L.map fun x => ((.int .i64 x.1 : Value), ival x.2)) (.int .i64 n) (ival ((A', c', g n ++ [x]) : Item α))) W9) (hG9 : W8.grownBy W9 (some mb)) :
    ∃ L', MapRw T size f mb base (putG g n x) L' W9 ∧ (∀ k, k < base → k ≠ mb → W9.heap[k]? = W.heap[k]?) ∧ W.heap.size ≤ W9.heap.size ∧ (∀ B, B ≤ mb → B ≤ W.heap.size → Below B W W9) ∧ L'.length ≤ L.length + 1 := by
  have hs7 := h7.size
  have hs8 : W7.heap.size + 1 ≤ W8.heap.size := by have := HG.size; simp at this; omega
  have hs9 := hG9.size
  have hAow : ∀ k, ownA A = some k → (∃ y ∈ L, ownA y.2.1 = some k ∧ y.1 = n) ∧ base ≤ k ∧ k < W.heap.size := fun k hk => by
    rcases hl with ⟨y, hy, rfl⟩ | ⟨_, rfl, _⟩
    · exact ⟨⟨_, hy, hk, rfl⟩, (h.sets _ hy).lt k (by rw [own_ownA]; exact hk)⟩
    · cases hk
  have hold : ∀ k, k < W.heap.size → ownA A ≠ some k → W8.heap[k]? = W.heap[k]? := fun k hk hA =>
    (HG.block k (by simp; omega) (fun e => hA e.symm)).trans ((Below.heap_alloc _ _ _ (by omega)).trans (h7.block k hk))
  have hold9 : ∀ k, k < W.heap.size → ownA A ≠ some k → k ≠ mb → W9.heap[k]? = W.heap[k]? := fun k hk hA hm => (hG9.block k (by omega) (fun e => hm (by injection e))).trans (hold k hk hA)
  rw [mapPut_rw] at hM
  have hA9 : ∀ k, ownA A' = some k → base ≤ k ∧ k < W8.heap.size := fun k hk => HO.lt k (by rw [own_ownA]; exact hk)
  have hrow9 : W9.ownsRow base T size (.slice A' (g n ++ [x]).length c') (g n ++ [x]).length ((g n ++ [x]).flatMap f) := by
    have e : (g n ++ [x]).length = (g n).length + 1 := by simp
    rw [e, List.flatMap_append]
    simpa using own_keep HO fun k hk => hG9.block k (hA9 k hk).2 (fun e => by injection e with e; have := hA9 k hk; omega)
  refine ⟨(n, (A', c', g n ++ [x])) :: L.filter fun y => decide (y.1 ≠ n), ⟨hM, fun y hy => ?_, ?_, fun y hy => ?_, fun m hm => ?_⟩, fun k hk hkm => hold9 k (by omega) (fun e => by have := hAow k e; omega) hkm, by omega, fun B hB hBW => ?_, ?_⟩
  · rcases List.mem_cons.1 hy with rfl | hy
    · exact hrow9
    · obtain ⟨hy1, hy2⟩ := List.mem_filter.1 hy
      have hyn : y.1 ≠ n := by simpa using hy2
      have hlt := fun k hk => (h.sets y hy1).lt k (by rw [own_ownA]; exact hk)
      refine own_keep (h.sets y hy1) fun k hk => hold9 k (hlt k hk).2 (fun e => ?_) (fun e => by have := hlt k hk; omega)
      obtain ⟨⟨z, hz, hz1, hz2⟩, _⟩ := hAow k e
      exact h.apart z hz y hy1 (fun e => hyn (e ▸ hz2)) k hz1 hk
  · have key : ∀ y ∈ L, y.1 ≠ n → ∀ k, ownA A' = some k → ownA y.2.1 ≠ some k := fun y hy hyn k hk he => by
      have hlt := (h.sets y hy).lt k (by rw [own_ownA]; exact he)
      rcases HN with e | ⟨q, e, hq⟩
      · rw [e] at hk
        obtain ⟨⟨z, hz, hz1, hz2⟩, _⟩ := hAow k hk
        exact h.apart z hz y hy (fun e => hyn (e ▸ hz2)) k hz1 he
      · rw [e] at hk; injection hk with hk; omega
    intro y hy z hz hne k hk he
    rcases List.mem_cons.1 hy with rfl | hy
    · rcases List.mem_cons.1 hz with rfl | hz
      · exact hne rfl
      · obtain ⟨hz1, hz2⟩ := List.mem_filter.1 hz
        exact key z hz1 (by simpa using hz2) k hk he
    · obtain ⟨hy1, hy2⟩ := List.mem_filter.1 hy
      rcases List.mem_cons.1 hz with rfl | hz
      · exact key y hy1 (by simpa using hy2) k he hk
      · exact h.apart y hy1 z (List.mem_filter.1 hz).1 hne k hk he
  · rcases List.mem_cons.1 hy with rfl | hy
    · simp [putG]
    · obtain ⟨hy1, hy2⟩ := List.mem_filter.1 hy
      have hyn : y.1 ≠ n := by simpa using hy2
      rw [h.val y hy1]; simp [putG, hyn]
  · have hmn : m ≠ n := fun e => hm _ (List.mem_cons_self ..) e.symm
    simp only [putG, hmn, if_false]
    refine h.none m fun y hy e => ?_
    by_cases hyn : y.1 = n
    · exact hmn (e ▸ hyn)
    · exact hm y (List.mem_cons_of_mem _ (List.mem_filter.2 ⟨hy, by simpa using hyn⟩)) e
  · exact ⟨hG9.os.trans (HG.os.trans h7.os), hG9.tape.trans (HG.tape.trans h7.tape), hG9.output.trans (HG.output.trans h7.output), by omega, fun k hk => hold9 k (by omega) (fun e => by have := hAow k e; omega) (by omega)⟩
  · simp only [List.length_cons]
    have := List.length_filter_le (fun y : Int × Item α => decide (y.1 ≠ n)) L
    omega
end
end Go.Proofs.Ytlmkokeapbleoaa
end
section
namespace Go.Proofs.Ytlmkokeapbleoaa
open Go.RowKit
abbrev Place := Int × List Int
def PlaceOk (p : Place) : Prop := I64 p.1 ∧ p.2.length ≤ 4 ∧ ∀ c ∈ p.2, I64 c
theorem i64_0 : I64 0 := by unfold I64; decide
theorem PlaceOk.at_ {p : Place} (h : PlaceOk p) (i : Nat) : I64 (p.2.getD i 0) := by
  rcases Nat.lt_or_ge i p.2.length with hi | hi
  · rw [List.getD_eq_getElem?_getD, List.getElem?_eq_getElem hi]
    exact h.2.2 _ (List.getElem_mem _)
  · rw [List.getD_eq_getElem?_getD, List.getElem?_eq_none hi]
    exact i64_0
theorem laidOutA : laidOutB Try.prog = true := by kernel_rfl
end Go.Proofs.Ytlmkokeapbleoaa
end
section
namespace Go.Proofs.Ytlmkokeapbleoaa
open Go.RowKit
theorem guardPartD : Try.prog.eqGuardType Try.prog.depth 125 = false := by kernel_rfl
theorem eqlPartD (x1 x2 x3 x4 y1 y2 y3 y4 : Int) (b : Bool) (hb : pB (x1 = y1 ∧ x2 = y2 ∧ x3 = y3 ∧ x4 = y4) = b) (w : World) :
    (binOp .eql 125 (.agg #[.int .i64 x1, .int .i64 x2, .int .i64 x3, .int .i64 x4]) (.agg #[.int .i64 y1, .int .i64 y2, .int .i64 y3, .int .i64 y4])).run Try.prog w = .ok (.bool b) w := by
  have u3 := Try.underlying3
  have a3 := Try.isAgg3
  have z3 := Try.sizeOf3
  have hS : Try.prog.underlying 125 = some (.struct (Try.prog.fieldsOf 125)) := by kernel_rfl
  have hp : Try.prog.stoodInHeld 125 = false := by kernel_rfl
  rw [run_eql_struct, show (10000 : Nat) = 9999 + 1 from rfl, run_equalIn_agg w 9999 125 _ _ hS hp]
  simp only [Program.fieldsOf, Try.underlying125]
  subst hb
  by_cases h1 : x1 = y1
  · subst h1
    by_cases h2 : x2 = y2
    · subst h2
      by_cases h3 : x3 = y3
      · subst h3
        by_cases h4 : x4 = y4
        · subst h4
          rw [pB_true (p := x1 = x1 ∧ x2 = x2 ∧ x3 = x3 ∧ x4 = x4) ⟨rfl, rfl, rfl, rfl⟩]
          go_simp
        · rw [pB_false (fun h => h4 h.2.2.2)]
          go_simp
      · rw [pB_false (fun h => h3 h.2.2.1)]
        go_simp
    · rw [pB_false (fun h => h2 h.2.1)]
      go_simp
  · rw [pB_false (fun h => h1 h.1)]
    go_simp
theorem neqPartD (x1 x2 x3 x4 y1 y2 y3 y4 : Int) (b : Bool) (hb : pB (x1 = y1 ∧ x2 = y2 ∧ x3 = y3 ∧ x4 = y4) = b) (w : World) :
    (binOp .neq 125 (.agg #[.int .i64 x1, .int .i64 x2, .int .i64 x3, .int .i64 x4]) (.agg #[.int .i64 y1, .int .i64 y2, .int .i64 y3, .int .i64 y4])).run Try.prog w = .ok (.bool (!b)) w := by
  have h := eqlPartD x1 x2 x3 x4 y1 y2 y3 y4 b hb w
  rw [run_eql_struct] at h
  rw [run_neq_struct]
  generalize (Op.equalIn 10000 125 (.agg #[.int .i64 x1, .int .i64 x2, .int .i64 x3, .int .i64 x4]) (.agg #[.int .i64 y1, .int .i64 y2, .int .i64 y3, .int .i64 y4])).run Try.prog w = r at h
  cases r with
  | ok a w1 => simp at h; obtain ⟨rfl, rfl⟩ := h; simp
  | halt h1 w1 => simp at h
theorem yielded_undefD {ops : Array Oper} {tmps : Array Value} {j : Nat} (h : ((ops[j]?).bind (·.dst)).bind (tmps[·]?) = some undef) : yielded ops tmps j = none := by
  unfold yielded; rw [h]; rfl
attribute [local go_sem ↓] yielded_undefD
section
variable {w0 w : World} {F : World → Prop} {A : Option Addr} {l : List PartL}
theorem plain_st (hK : Hid (St w0 w F)) (b d t u s : Int) (c : Nat) (v : Bool) (hv : Hid (pB (PlainT ⟨b, d, t, u, s, l⟩) = v)) :
    Calls Try.prog 69 #[.agg #[.int .i64 b, .int .i64 d, .int .i64 t, .int .i64 u, .int .i64 s, .slice A l.length c]] w (RetV w0 (.bool v) F) := by
  have HK := St.box hK [.int .i64 b, .int .i64 d, .int .i64 t, .int .i64 u, .int .i64 s, .slice A l.length c] 100
  have hg := guardPartD
  by_cases b0 : b = 0
  case neg =>
    have b0' : (b == 0) = false := by simpa using b0
    obtain rfl := pB_f hv (fun h => b0 h.1)
    go_enter Try.func69, Try.ntmps69
    go_wp2_with fail
    go_ret
    exact ⟨rfl, Lib.hid (HK.out.weaken fun _ h => h.2)⟩
  subst b0
  have hq : ∀ w, _ := eqlPartD 0 d t u 0 0 21 0 v (by rw [← hv.out]; exact pB_congr ⟨fun h => ⟨rfl, h.2⟩, fun h => ⟨rfl, h.2⟩⟩)
  go_enter Try.func69, Try.ntmps69
  go_wp2_with fail
  refine (retV_gives HK (outer_any 0 d t u s A l.length c _)).mono ?_
  rintro e w1 ⟨rfl, HK1⟩
  go_wp2_with fail
  refine (retV_gives HK1 (Whole_any 0 _)).mono ?_
  rintro e w2 ⟨rfl, HK2⟩
  go_wp2_with fail
  go_ret
  exact ⟨rfl, Lib.hid (HK2.out.weaken fun _ h => h.2)⟩
def RtP (i : Int) (n : Nat) (p : PartL) : Prop := PartOk n p ∧ (i = 2 → WholeP p)
def RtTo (i : Int) (n : Nat) (l : List PartL) (k : Nat) : Prop := ∀ p ∈ l.take k, RtP i n p
theorem RtTo.next {i : Int} {n : Nat} {k : Nat} {p : PartL} (h : RtTo i n l k) (hx : l[k]? = some p) (hp : RtP i n p) : RtTo i n l (k + 1) := fun q hq => by
  rw [take_snoc? hx] at hq
  rcases List.mem_append.1 hq with hq | hq
  · exact h q hq
  · simp at hq; subst hq; exact hp
theorem tRightG_st (hK : Hid (St w0 w F)) (hp : ∀ W, F W → PartsAt A l W) (b d t u s : Int) (c : Nat) (i o : Int) (n : Nat) (v : Bool) (hv : Hid (pB (TermRt i o n ⟨b, d, t, u, s, l⟩) = v)) :
    Calls Try.prog 52 #[.agg #[.int .i64 b, .int .i64 d, .int .i64 t, .int .i64 u, .int .i64 s, .slice A l.length c], .int .i64 i, .int .i64 o, .int .i64 n] w (RetV w0 (.bool v) F) := by
  have hln := (hp _ hK.out.now).ln
  have HP := Lib.hid hp
  have HK := St.box hK [.int .i64 b, .int .i64 d, .int .i64 t, .int .i64 u, .int .i64 s, .slice A l.length c] 100
  have hg := guardPartD
  clear hp
  by_cases s1 : SortOk i
  case neg =>
    have h1 : (((domL i).length : Int) == 0) = true := by rw [(domL_nil i).2 s1]; rfl
    obtain rfl := pB_f hv (fun h => s1 h.1)
    clear s1
    go_enter Try.func52, Try.ntmps52
    go_wp2_with fail
    refine (DomX_st HK i).mono ?_
    rintro e w1 ⟨A1, c1, rfl, HK1⟩
    go_wp2_with fail
    go_ret
    exact ⟨rfl, Lib.hid (HK1.out.weaken fun _ h => h.2.2)⟩
  have h1 : (((domL i).length : Int) == 0) = false := by
    rw [beq_eq_false_iff_ne]
    intro h
    exact (domL_nil i).1 (List.eq_nil_of_length_eq_zero (by omega)) s1
  by_cases s2 : SortOk o
  case neg =>
    have h2 : (((domL o).length : Int) == 0) = true := by rw [(domL_nil o).2 s2]; rfl
    obtain rfl := pB_f hv (fun h => s2 h.2.1)
    clear s1 s2
    go_enter Try.func52, Try.ntmps52
    go_wp2_with fail
    refine (DomX_st HK i).mono ?_
    rintro e w1 ⟨A1, c1, rfl, HK1⟩
    go_wp2_with fail
    refine (DomX_st HK1 o).mono ?_
    rintro e w2 ⟨A2, c2, rfl, HK2⟩
    go_wp2_with fail
    go_ret
    exact ⟨rfl, Lib.hid (HK2.out.weaken fun _ h => h.2.2.2)⟩
  have h2 : (((domL o).length : Int) == 0) = false := by
    rw [beq_eq_false_iff_ne]
    intro h
    exact (domL_nil o).1 (List.eq_nil_of_length_eq_zero (by omega)) s2
  have HS := Lib.hid (And.intro s1 s2)
  clear s1 s2
  go_enter Try.func52, Try.ntmps52
  go_wp2_with fail
  refine (DomX_st HK i).mono ?_
  rintro e w1 ⟨A1, c1, rfl, HK1⟩
  go_wp2_with fail
  refine (DomX_st HK1 o).mono ?_
  rintro e w2 ⟨A2, c2, rfl, HK2⟩
  have HK2 : Hid (St w0 w2 (fun W => BoxC w.heap.size [.int .i64 b, .int .i64 d, .int .i64 t, .int .i64 u, .int .i64 s, .slice A l.length c] W ∧ F W)) := Lib.hid (HK2.out.weaken fun _ h => h.2.2)
  obtain ⟨hc0, hc1, hc2, hc3, hc4, hc5⟩ := HK2.out.now.1.c6
  clear h1
  by_cases a1 : NumsOk ⟨b, d, t, u, s, l⟩
  case neg =>
    obtain rfl := pB_f hv (fun h => a1 h.2.2.1)
    have H1 := Lib.hid (pB_false a1)
    clear a1
    go_wp2_with fail
    refine (numbers_st HK2 (fun _ h => HP.out _ h.2) b d t u s c false H1).mono ?_
    rintro e w3 ⟨rfl, HK3⟩
    go_wp2_with fail
    go_ret
    exact ⟨rfl, Lib.hid (HK3.out.weaken fun _ h => h.2)⟩
  have H1 := Lib.hid (pB_true a1)
  have HA := Lib.hid a1
  clear a1
  go_wp2_with fail
  refine (numbers_st HK2 (fun _ h => HP.out _ h.2) b d t u s c true H1).mono ?_
  rintro e w3 ⟨rfl, HK3⟩
  clear hc0 hc1 hc2 hc3 hc4 hc5 h2
  have hc5 := HK3.out.now.1 5 _ rfl
  have h4 : l.length ≤ 4 := HA.out.2.2.2.2
  go_wp2_with fail
  go_loopw [29] (fun iv wr => ∃ k : Nat, k ≤ l.length ∧ iv = .int .i64 k ∧ Hid (RtTo i n l k) ∧ Hid (St w0 wr (fun W => BoxC w.heap.size [.int .i64 b, .int .i64 d, .int .i64 t, .int .i64 u, .int .i64 s, .slice A l.length c] W ∧ F W))) (fun iv _ => l.length - (intOf iv).toNat)
  case atStart => exact ⟨0, Nat.zero_le _, rfl, Lib.hid (fun p hp => by simp at hp), HK3⟩
  case round =>
  clear hc5 HK HK1 HK2 HK3 H1
  obtain ⟨k, hk, rfl, HR, HK⟩ := hrel
  by_cases hlt : k < l.length
  · obtain ⟨pb, off, p, rfl, hx, hw, hd0, hd1, hd2, hd3⟩ := (HP.out _ HK.out.now.2).at_ hlt
    have hlw := lt_of_cell hd0
    have HKp := St.box HK [.int .i64 p.1, .int .i64 p.2.1, .int .i64 p.2.2.1, .int .i64 p.2.2.2] 125
    obtain ⟨x1, x2, x3, x4⟩ := p
    simp only at hd0 hd1 hd2 hd3 HKp
    have HX := Lib.hid hx
    have HBAD : ¬ RtP i n (x1, x2, x3, x4) → v = false := fun h => pB_f hv (fun g => h (g.2.2.2.1 _ (List.mem_of_getElem? HX.out)))
    clear hx hw
    by_cases a2 : PartOk n (x1, x2, x3, x4)
    case neg =>
      have H2 := Lib.hid (pB_false a2)
      obtain rfl := HBAD (fun h => a2 h.1)
      clear a2 HBAD
      go_wp2_with fail
      have HK := St.hdrewN HKp 1
      first | (go_region_with (go_at_call 67; refine (PRight_st HK x1 x2 x3 x4 n false H2).mono ?_; rintro e w5 ⟨rfl, HK⟩)) | fail
      all_goals (go_wp2_with fail; go_ret; exact ⟨rfl, Lib.hid (HK.out.weaken fun _ h => h.2.2)⟩)
    have H2 := Lib.hid (pB_true a2)
    by_cases i2 : i = 2
    case neg =>
      have i2' : (i == 2) = false := by simpa using i2
      have HN := Lib.hid (HR.out.next HX.out ⟨a2, fun h => absurd h i2⟩)
      clear a2 HBAD i2
      go_wp2_with fail
      have HK := St.hdrewN HKp 1
      first | (go_region_with (go_at_call 67; refine (PRight_st HK x1 x2 x3 x4 n true H2).mono ?_; rintro e w5 ⟨rfl, HK⟩)) | fail
      all_goals (go_wp2_with fail; exact ⟨⟨k + 1, by omega, by go_num, HN, Lib.hid (HK.out.weaken fun _ h => h.2)⟩, by simp [intOf]; omega⟩)
    subst i2
    by_cases a3 : WholeP (x1, x2, x3, x4)
    case neg =>
      obtain rfl := HBAD (fun h => a3 (h.2 rfl))
      have hq := neqPartD x1 x2 x3 x4 x1 0 21 0 false (pB_false fun h => a3 h.2)
      clear a2 a3 HBAD
      go_wp2_with fail
      have HK6 := St.hdrewN HKp 1
      go_region_held3 (fun W => W.cell? ⟨wr.heap.size, 0, none⟩ = some (.int .i64 x1) ∧ W.cell? ⟨wr.heap.size, 1, none⟩ = some (.int .i64 x2) ∧ W.cell? ⟨wr.heap.size, 2, none⟩ = some (.int .i64 x3) ∧ W.cell? ⟨wr.heap.size, 3, none⟩ = some (.int .i64 x4))
        (first | exact HK8.out.now.1.c4 | exact HK7.out.now.1.c4 | exact HK6.out.now.1.c4 | go_keep)
        ((first | (go_at_call 67; refine (PRight_st HK6 x1 x2 x3 x4 n true H2).mono ?_; rintro e7 w7 ⟨rfl, HK7⟩) | (go_at_call 68; refine (retV_gives HK7 (Whole_any x1 _)).mono ?_; rintro e8 w8 ⟨rfl, HK8⟩)))
      go_wp2_with fail
      go_ret
      exact ⟨rfl, Lib.hid (HK8.out.weaken fun _ h => h.2.2)⟩
    have HN := Lib.hid (HR.out.next HX.out ⟨a2, fun h => a3⟩)
    have hq := neqPartD x1 x2 x3 x4 x1 0 21 0 true (pB_true ⟨rfl, a3⟩)
    clear a2 a3 HBAD
    go_wp2_with fail
    have HK6 := St.hdrewN HKp 1
    go_region_held3 (fun W => W.cell? ⟨wr.heap.size, 0, none⟩ = some (.int .i64 x1) ∧ W.cell? ⟨wr.heap.size, 1, none⟩ = some (.int .i64 x2) ∧ W.cell? ⟨wr.heap.size, 2, none⟩ = some (.int .i64 x3) ∧ W.cell? ⟨wr.heap.size, 3, none⟩ = some (.int .i64 x4))
      (first | exact HK8.out.now.1.c4 | exact HK7.out.now.1.c4 | exact HK6.out.now.1.c4 | go_keep)
      ((first | (go_at_call 67; refine (PRight_st HK6 x1 x2 x3 x4 n true H2).mono ?_; rintro e7 w7 ⟨rfl, HK7⟩) | (go_at_call 68; refine (retV_gives HK7 (Whole_any x1 _)).mono ?_; rintro e8 w8 ⟨rfl, HK8⟩)))
    go_wp2_with fail
    go_roundw
    case rel => exact ⟨k + 1, by omega, by go_num, HN, Lib.hid (HK8.out.weaken fun _ h => h.2)⟩
    case measure => simp [intOf]; omega
  · obtain rfl : k = l.length := by omega
    have hd : decide (l.length < l.length) = false := by simp
    have HRA : Hid (∀ p ∈ l, RtP i n p) := Lib.hid (by have := HR.out; unfold RtTo at this; rwa [List.take_length] at this)
    have hc5 := HK.out.now.1 5 _ rfl
    have HE : Hid (pB ((i = 2 → l.length ≤ 1) ∧ (o = 2 → PlainT ⟨b, d, t, u, s, l⟩)) = v) := by
      unfold Hid
      rw [← hv.out]
      exact pB_congr ⟨fun h => ⟨HS.out.1, HS.out.2, HA.out, HRA.out, h⟩, fun h => h.2.2.2.2⟩
    by_cases i2 : i = 2 ∧ ¬ l.length ≤ 1
    · obtain ⟨rfl, l1⟩ := i2
      have l1' : ¬ (l.length : Int) ≤ 1 := by omega
      obtain rfl := pB_f HE (fun h => l1 (h.1 rfl))
      go_wp2_with fail
      go_ret
      exact ⟨rfl, Lib.hid (HK.out.weaken fun _ h => h.2)⟩
    have HI : Hid (pB (o = 2 → PlainT ⟨b, d, t, u, s, l⟩) = v) := by
      unfold Hid
      rw [← HE.out]
      exact pB_congr ⟨fun h => ⟨fun e => Nat.le_of_not_lt fun h1 => i2 ⟨e, by omega⟩, h⟩, fun h => h.2⟩
    have hi : (i = 2 ∧ (l.length : Int) ≤ 1) ∨ (i != 2) = true := by
      by_cases e : i = 2
      · exact .inl ⟨e, by have : l.length ≤ 1 := Nat.le_of_not_lt fun h1 => i2 ⟨e, by omega⟩
                          omega⟩
      · exact .inr (by simpa using e)
    clear i2
    by_cases o2 : o = 2
    case neg =>
      have o2' : (o != 2) = true := by simpa using o2
      obtain rfl := pB_t HI (fun h => absurd h o2)
      clear o2
      rcases hi with ⟨rfl, hi⟩ | hi
      · go_wp2_with fail
        go_ret
        exact ⟨rfl, Lib.hid (HK.out.weaken fun _ h => h.2)⟩
      · go_wp2_with fail
        go_ret
        exact ⟨rfl, Lib.hid (HK.out.weaken fun _ h => h.2)⟩
    subst o2
    have HPL : Hid (pB (PlainT ⟨b, d, t, u, s, l⟩) = v) := by
      unfold Hid
      rw [← HI.out]
      exact pB_congr ⟨fun h _ => h, fun h => h rfl⟩
    obtain ⟨hc0, hc1, hc2, hc3, hc4, _⟩ := HK.out.now.1.c6
    rcases hi with ⟨rfl, hi⟩ | hi
    · go_wp2_with fail
      refine (plain_st HK b d t u s c v HPL).mono ?_
      rintro e w4 ⟨rfl, HK4⟩
      go_wp2_with fail
      go_ret
      exact ⟨rfl, Lib.hid (HK4.out.weaken fun _ h => h.2)⟩
    · go_wp2_with fail
      refine (plain_st HK b d t u s c v HPL).mono ?_
      rintro e w4 ⟨rfl, HK4⟩
      go_wp2_with fail
      go_ret
      exact ⟨rfl, Lib.hid (HK4.out.weaken fun _ h => h.2)⟩
end
end Go.Proofs.Ytlmkokeapbleoaa
end
section
namespace Go.Proofs.Ytlmkokeapbleoaa
open Go.RowKit
def InnS (t : TermL) (gs : List (List Sp)) (v : Int) : Prop := ∃ w, WinG gs w ∧ innerT t w = v
def OutS (t : TermL) (gs : List (List Sp)) (y : Int) : Prop := ∃ w, WinG gs w ∧ y = t.base + pval t.drop t.take t.up (innerT t w)
def InRange (t : TermL) (gs : List (List Sp)) : Prop := ∀ v, InnS t gs v → 0 ≤ v ∧ v ≤ 1114111
theorem winG_len {gs : List (List Sp)} {w : List Int} (h : WinG gs w) : gs.length = w.length := hitM_len h.1
theorem innS_bd {t : TermL} (hn : NumsOk t) {gs : List (List Sp)} {v : Int} (h : InnS t gs v) : -1073741824 ≤ v ∧ v ≤ 1073741824 := by
  obtain ⟨w, _, rfl⟩ := h
  have := innerTo_bd hn.2.1 w t.parts.length hn.2.2.2.2
  unfold innerT
  omega
theorem rep_inn {t : TermL} (hn : NumsOk t) (gs : List (List Sp)) : ∃ r, Hid (Rep r (InnS t gs)) := rep_all _ fun v h => innS_bd hn h
noncomputable def symL (g : List Sp) : List Sp := plL fun x => Mem g x ∧ Mem [(0, 1114111)] x
theorem symL_rep (g : List Sp) : Rep (symL g) (fun x => Mem g x ∧ Mem [(0, 1114111)] x) := plL_rep (rep_all _ fun x hx => ⟨hx.1.1, hx.1.2.1⟩)
theorem symL_mem (g : List Sp) (x : Int) : Mem (symL g) x ↔ (Mem g x ∧ 0 ≤ x ∧ x ≤ 1114111) := by
  rw [(symL_rep g).mem]
  constructor
  · rintro ⟨h1, _, _, h2⟩; exact ⟨h1, by simpa [InS] using h2⟩
  · rintro ⟨h1, h2⟩; exact ⟨h1, h1.1, h1.2.1, by simpa [InS] using h2⟩
theorem winG_sym (gs : List (List Sp)) (w : List Int) : WinG (gs.map symL) w ↔ WinG gs w := by
  unfold WinG
  rw [hitM_iff, hitM_iff, List.length_map]
  constructor
  · rintro ⟨⟨h1, h2⟩, h3⟩
    refine ⟨⟨h1, fun k s x hs hx => ?_⟩, h3⟩
    exact ((symL_mem _ _).1 (h2 k (symL s) x (by rw [List.getElem?_map, hs]; rfl) hx)).1
  · rintro ⟨⟨h1, h2⟩, h3⟩
    refine ⟨⟨h1, fun k s x hs hx => ?_⟩, h3⟩
    rw [List.getElem?_map] at hs
    rcases hg : gs[k]? with _ | g
    · rw [hg] at hs; cases hs
    · rw [hg] at hs; injection hs with hs; subst hs
      exact (symL_mem _ _).2 ⟨h2 k g x hg hx, h3 x (List.mem_of_getElem? hx)⟩
theorem innS_sym (t : TermL) (gs : List (List Sp)) (v : Int) : InnS t (gs.map symL) v ↔ InnS t gs v := by
  unfold InnS
  constructor
  · rintro ⟨w, h1, h2⟩; exact ⟨w, (winG_sym gs w).1 h1, h2⟩
  · rintro ⟨w, h1, h2⟩; exact ⟨w, (winG_sym gs w).2 h1, h2⟩
theorem win_ex {gs : List (List Sp)} (h : ∀ g ∈ gs, g ≠ [] ∧ Plain g ∧ ∀ x, InS g x → 0 ≤ x ∧ x ≤ 1114111) : ∃ w, WinG gs w := by
  induction gs with
  | nil => exact ⟨[], trivial, fun x hx => by cases hx⟩
  | cons g gs ih =>
    obtain ⟨w, h1, h2⟩ := ih fun q hq => h q (List.mem_cons_of_mem _ hq)
    obtain ⟨hn, hp, hb⟩ := h g (List.mem_cons_self ..)
    obtain ⟨p, l, rfl⟩ := List.exists_cons_of_ne_nil hn
    have hx : InS (p :: l) p.1 := .inl ⟨Int.le_refl _, hp.2.1⟩
    refine ⟨p.1 :: w, ⟨(hp.mem _).2 hx, h1⟩, fun x hx2 => ?_⟩
    rcases List.mem_cons.1 hx2 with rfl | hx2
    · exact hb _ hx
    · exact h2 x hx2
theorem win_none {gs : List (List Sp)} {g : List Sp} (hg : g ∈ gs) (h : symL g = []) (w : List Int) : ¬ WinG gs w := by
  rintro ⟨h1, h2⟩
  obtain ⟨hl, h1⟩ := (hitM_iff _ _).1 h1
  obtain ⟨k, hk⟩ := List.getElem?_of_mem hg
  have hkl := (List.getElem?_eq_some_iff.1 hk).1
  have hx := List.getElem?_eq_getElem (l := w) (i := k) (by omega)
  have h3 := (symL_mem g _).2 ⟨h1 k g _ hk hx, h2 _ (List.mem_of_getElem? hx)⟩
  rw [h] at h3
  exact h3.2.2
theorem bitsOk_b {d t u : Int} (h : BitsOk d t u) : bitsB d t u = true := by
  rw [bitsB_iff]
  unfold BitsOk at h
  omega
theorem val_pval {t : TermL} (hb : BitsOk t.drop t.take t.up) {w : List Int} (h0 : 0 ≤ innerT t w) (h1 : innerT t w ≤ 1114111) : valN t w = t.base + pval t.drop t.take t.up (innerT t w) ∧ vOk t.drop t.take t.up (innerT t w) = true := by
  have hv : vOk t.drop t.take t.up (innerT t w) = true := (vOk_iff _ _ _ _).2 ⟨bitsOk_b hb, h0, by omega⟩
  refine ⟨?_, hv⟩
  unfold valN vNum
  rw [if_pos hv]
theorem fits_iff {i o : Int} {gs : List (List Sp)} {t : TermL} (ht : TermRt i o gs.length t) : FitsP i o gs t ↔ (InRange t gs ∧ ∀ y, OutS t gs y → InD o y) := by
  unfold FitsP InRange OutS
  constructor
  · rintro ⟨_, h⟩
    refine ⟨?_, ?_⟩
    · rintro v ⟨w, hw, rfl⟩
      have := (h w hw).1
      exact ⟨this.2.2.1, this.2.2.2.1⟩
    · rintro y ⟨w, hw, rfl⟩
      have h1 := (h w hw).1
      rw [← (val_pval ht.2.2.1.2.2.1 h1.2.2.1 h1.2.2.2.1).1]
      exact (h w hw).2
  · rintro ⟨h1, h2⟩
    refine ⟨ht, fun w hw => ?_⟩
    have h3 := h1 _ ⟨w, hw, rfl⟩
    have h4 := val_pval ht.2.2.1.2.2.1 h3.1 h3.2
    refine ⟨⟨hw.2, fun p hp => ?_, h3.1, h3.2, h4.2⟩, ?_⟩
    · rw [← winG_len hw]; exact (ht.2.2.2.1 p hp).1
    · rw [h4.1]; exact h2 _ ⟨w, hw, rfl⟩
theorem outS_bd {t : TermL} (hn : NumsOk t) {gs : List (List Sp)} {y : Int} (h : OutS t gs y) : -1073741824 ≤ y ∧ y ≤ 1073741824 := by
  obtain ⟨w, _, rfl⟩ := h
  have h1 := pval_bd (bitsOk_b hn.2.2.1) (innerT t w)
  have h2 := hn.1
  unfold SmallN at h2
  omega
end Go.Proofs.Ytlmkokeapbleoaa
end
section
namespace Go.Proofs.Ytlmkokeapbleoaa
open Go.RowKit
def RetLB2 (w0 : World) (r : List Sp) (ok : Bool) (F : World → Prop) (e : Ending) (w' : World) : Prop := ∃ A c, e = .returned (.tuple #[.slice A r.length c, .bool ok]) ∧ Hid (St w0 w' (fun W => Lst A r W ∧ F W))
section
variable {w0 w : World} {F : World → Prop}
end
end Go.Proofs.Ytlmkokeapbleoaa
end
section
namespace Go.Proofs.Ytlmkokeapbleoaa
open Go.RowKit Go.Shelf
attribute [local go_sem] Oper.semAt_some
def numsOf (p : Sp) : List Int := (List.range (p.2 - p.1 + 1).toNat).map fun i : Nat => p.1 + (i : Int)
def nums (r : List Sp) : List Int := r.flatMap numsOf
theorem numsOf_length (p : Sp) : (numsOf p).length = (p.2 - p.1 + 1).toNat := by simp [numsOf]
theorem nums_cons (p : Sp) (r : List Sp) : nums (p :: r) = numsOf p ++ nums r := rfl
theorem nums_append (r s : List Sp) : nums (r ++ s) = nums r ++ nums s := by simp [nums]
theorem nums_length {a : Int} {r : List Sp} (h : PlainF a r) : ((nums r).length : Int) = cnt r := by
  induction r generalizing a with
  | nil => rfl
  | cons p r ih =>
    obtain ⟨h1, h2, h3, h4⟩ := h
    rw [nums_cons, List.length_append, numsOf_length, cnt_cons, ← ih h4]
    omega
def OwnB (lo hi Bu : Nat) (W : World) (k : Nat) : Prop := (lo ≤ k ∧ k < hi) ∨ ∃ off n c, W.cell? ⟨Bu, 0, none⟩ = some (.slice (some ⟨k, off, none⟩) n c)
structure KpO (O : World → Nat → Prop) (W W' : World) : Prop where
  size : W.heap.size ≤ W'.heap.size
  cell : ∀ (p : Addr) v, W.cell? p = some v → ¬ O W p.block → W'.cell? p = some v
  own : ∀ k, O W' k → O W k ∨ W.heap.size ≤ k
  wf : (∀ k, O W k → k < W.heap.size) → (∀ k, O W' k → k < W'.heap.size)
abbrev KpB (lo hi Bu : Nat) := KpO (OwnB lo hi Bu)
def OnB (B0 : Nat) (O : World → Nat → Prop) : Prop := ∀ W W' : World, (∀ k, k < B0 → W'.heap[k]? = W.heap[k]?) → ∀ k, O W' k ↔ O W k
section
variable {O : World → Nat → Prop} {A B C W W' : World}
theorem KpO.refl (W : World) : KpO O W W := ⟨Nat.le_refl _, fun _ _ h _ => h, fun _ h => .inl h, fun h => h⟩
theorem KpO.trans (h : KpO O A B) (k : KpO O B C) : KpO O A C := by
  refine ⟨Nat.le_trans h.size k.size, fun p v hv ho => ?_, fun j hj => ?_, fun hw => k.wf (h.wf hw)⟩
  · refine k.cell p v (h.cell p v hv ho) fun ho' => ?_
    rcases h.own _ ho' with h1 | h1
    · exact ho h1
    · have := World.block_lt_of_cell? A p hv; omega
  · rcases k.own j hj with h1 | h1
    · exact h.own j h1
    · exact .inr (Nat.le_trans h.size h1)
theorem KpO.same (hs : W.heap.size ≤ W'.heap.size) (hc : ∀ (p : Addr) v, W.cell? p = some v → ¬ O W p.block → W'.cell? p = some v) (hb : ∀ k, O W' k ↔ O W k) : KpO O W W' :=
  ⟨hs, hc, fun k hk => .inl ((hb k).1 hk), fun hw k hk => Nat.lt_of_lt_of_le (hw k ((hb k).1 hk)) hs⟩
theorem KpO.below {n : Nat} (h : Below n W W') (hn : W.heap.size ≤ n) {B0 : Nat} (hO : OnB B0 O) (hb : B0 ≤ W.heap.size) : KpO O W W' :=
  KpO.same h.size (fun p u hu _ => (h.cell (Nat.lt_of_lt_of_le (World.block_lt_of_cell? W p hu) hn)).trans hu) (hO _ _ fun k hk => h.block k (by omega))
end
section
variable {lo hi Bu : Nat} {A B C W W' : World}
theorem OwnB.congr (h : W'.cell? ⟨Bu, 0, none⟩ = W.cell? ⟨Bu, 0, none⟩) (k : Nat) : OwnB lo hi Bu W' k ↔ OwnB lo hi Bu W k := by unfold OwnB; rw [h]
theorem ownB_on {B0 : Nat} (h : Bu < B0) : OnB B0 (OwnB lo hi Bu) := fun W W' hW k => OwnB.congr (World.cell?_of_block (hW Bu h)) k
theorem KpB.refl (W : World) : KpB lo hi Bu W W := KpO.refl W
theorem KpB.trans (h : KpB lo hi Bu A B) (k : KpB lo hi Bu B C) : KpB lo hi Bu A C := KpO.trans h k
theorem KpB.same (hs : W.heap.size ≤ W'.heap.size) (hc : ∀ (p : Addr) v, W.cell? p = some v → ¬ OwnB lo hi Bu W p.block → W'.cell? p = some v) (hb : W'.cell? ⟨Bu, 0, none⟩ = W.cell? ⟨Bu, 0, none⟩) : KpB lo hi Bu W W' :=
  KpO.same hs hc (OwnB.congr hb)
theorem KpB.setCell (b : Nat) (v : Value) (h1 : lo ≤ b) (h2 : b < hi) (hne : b ≠ Bu) : KpB lo hi Bu W (W.setCell ⟨b, 0, none⟩ v) := by
  refine KpB.same (by simp) (fun p u hu ho => ?_) ?_
  · rw [World.cell?_setCell_far _ _ _ _ (fun e => ho (.inl (by rw [← e]; exact ⟨h1, h2⟩)))]; exact hu
  · exact World.cell?_setCell_far _ _ _ _ hne
theorem KpB.below {n : Nat} (h : Below n W W') (hn : W.heap.size ≤ n) (hb : Bu < W.heap.size) : KpB lo hi Bu W W' :=
  KpB.same h.size (fun p u hu _ => (h.cell (Nat.lt_of_lt_of_le (World.block_lt_of_cell? W p hu) hn)).trans hu) (h.cell (Nat.lt_of_lt_of_le hb hn))
theorem kpB_t (h : KpB lo hi Bu A B) (k : KpB lo hi Bu B C) : KpB lo hi Bu A C := h.trans k
theorem kpB_b {w : World} (hb : Bu < w.heap.size) (W : World) (l : Nat) (o o' : Obj) (hl : w.heap.size ≤ l) (h : W.heap[l]? = some o) (hc : o.isCells = false) (_ : o.isWalk = false) : KpB lo hi Bu W (W.putObj l o') := by
  have hlt := (Array.getElem?_eq_some_iff.1 h).1
  have hb2 := belowK_b (n₀ := w.heap.size) (Nat.le_refl _) W l o o' hl h hc (by assumption)
  refine KpB.same hb2.size (fun p u hu _ => ?_) (hb2.cell (p := ⟨Bu, 0, none⟩) hb)
  have hne : p.block ≠ l := by
    intro e
    unfold World.cell? at hu
    rw [e, h] at hu
    cases o <;> simp_all [Obj.isCells]
  have hg := grownBy_putObj' W l o'
  rw [← hu]
  exact World.cell?_of_block (hg.block p.block (World.block_lt_of_cell? W p hu) (fun e => hne (by simpa using e)))
end
theorem Each_any (A : Option Addr) (n c : Nat) (l r : List Sp) (w : World) (h : Spans w A n l) (hw : SpW l) (hn : n < 137438953472) (hr : Rep r (Mem l)) :
    Calls Try.prog 85 #[.slice A n c] w fun e w' => ∃ B g c1, e = .returned (.func (.func 91) #[] #[.pointer (some ⟨B, 0, none⟩)]) ∧ (w.heap.size ≤ B ∧ B < w'.heap.size ∧ w.heap.size ≤ g ∧ g < B) ∧
      w'.cell? ⟨B, 0, none⟩ = some (.slice (some ⟨g, 0, none⟩) r.length c1) ∧ Spans w' (some ⟨g, 0, none⟩) r.length r ∧ Below w.heap.size w w' := by
  have HN := Lib.hid (Norm_any A n c l w h hw (by omega))
  have HR := Lib.hid hr
  clear h hr
  go_enter Try.func85, Try.ntmps85
  go_wp2_with fail
  refine HN.out.mono ?_
  rintro e w1 ⟨r', ho, hr', hrl⟩
  obtain rfl : r' = r := Rep.unique hr' HR.out (fun _ => Iff.rfl)
  obtain ⟨g1, c1, rfl, hg1, hc1, hm1, hrow1, hb1⟩ := ho.shape
  have hlt1 := (hrow1.lt g1 rfl).2
  have HRow1 := Lib.hid hrow1
  have HB1 := Lib.hid hb1
  clear ho hrow1 hb1 hr' HN
  go_wp2_with fail
  go_ret
  have hs1 : Spans w1 (some ⟨g1, 0, none⟩) r'.length r' := Sl.of_own HRow1.out
  refine ⟨w1.heap.size, g1, c1, rfl, ⟨HB1.out.size, by simp, hg1, hlt1⟩, ?_, hs1.alloc _, HB1.out.alloc HB1.out.size _⟩
  have hb := heap_alloc_new w1 (.cells #[.slice (some ⟨g1, 0, none⟩) r'.length c1] 36)
  simp only [World.cell?, hb]
  rfl
theorem numsOf_take (x1 x2 : Int) (m : Nat) (hm : (m : Int) < x2 - x1 + 1) : (List.range (m + 1)).map (fun i : Nat => x1 + (i : Int)) = (List.range m).map (fun i : Nat => x1 + (i : Int)) ++ [x1 + (m : Int)] := by
  rw [List.range_succ, List.map_append]; rfl
theorem nums_done (r : List Sp) (k : Nat) (x1 x2 : Int) (h : r[k]? = some (x1, x2)) (m : Nat) (hm : (m : Int) = x2 - x1 + 1) : nums (r.take k) ++ (List.range m).map (fun i : Nat => x1 + (i : Int)) = nums (r.take (k + 1)) := by
  rw [take_snoc? h, nums_append]
  congr 1
  have e : m = (x2 - x1 + 1).toNat := by omega
  subst e
  simp [nums, numsOf]
theorem nums_part (r : List Sp) (k : Nat) (x1 x2 : Int) (h : r[k]? = some (x1, x2)) (m : Nat) (hm : (m : Int) ≤ x2 - x1 + 1) : nums (r.take k) ++ (List.range m).map (fun i : Nat => x1 + (i : Int)) <+: nums r := by
  have e : r = r.take k ++ (x1, x2) :: r.drop (k + 1) := by rw [← drop_cons? h, List.take_append_drop]
  have e2 : nums r = nums (r.take k) ++ (numsOf (x1, x2) ++ nums (r.drop (k + 1))) := by
    have := congrArg nums e
    rw [nums_append, nums_cons] at this
    exact this
  rw [e2]
  refine (List.prefix_append_right_inj _).2 (List.IsPrefix.trans ?_ (List.prefix_append _ _))
  unfold numsOf
  exact List.IsPrefix.map _ ⟨List.range' m ((x2 - x1 + 1).toNat - m), by rw [List.range_eq_range', List.range_eq_range']; have := List.range'_append_1 (s := 0) (m := m) (n := (x2 - x1 + 1).toNat - m); rw [Nat.zero_add] at this; rw [this]; congr 1; omega⟩
theorem each_in (F : Fence) (n : Nat) (hF : F.fn 91) (hro : F.round = none) (hn : 1 ≤ n) (l B0 B g c : Nat) (O : World → Nat → Prop) (hO : OnB B0 O) (r : List Sp) (hp : Plain r) (J Jx : List Int → World → Prop)
    (hY : ∀ pre x W, J pre W → pre ++ [x] <+: nums r → YieldAt F (n - 1) Try.prog l #[.int .i64 x] W fun e W' =>
      (e = .returned (.bool true) ∧ J (pre ++ [x]) W' ∧ KpO O W W') ∨ (e = .returned (.bool false) ∧ Jx (pre ++ [x]) W'))
    (W : World) (hJ : AbidesFrom W.heap.size J) (hBu : B0 ≤ W.heap.size) (hwf : ∀ k, O W k → k < W.heap.size) (hog : ¬ O W g) (hgW : g < W.heap.size)
    (hB : W.cell? ⟨B, 0, none⟩ = some (.slice (some ⟨g, 0, none⟩) r.length c)) (hS : Spans W (some ⟨g, 0, none⟩) r.length r) (h0 : J [] W) :
    CallsIn F n Try.prog 91 #[.func (.yield l) #[] #[], .pointer (some ⟨B, 0, none⟩)] W fun e W' => (∃ v, e = .returned v) ∧ ((∃ ys, ys = nums r ∧ J ys W') ∨ (∃ pre, pre <+: nums r ∧ Jx pre W')) := by
  have hlb := hp.len_le
  have HS := Lib.hid hS
  have HWF := Lib.hid hwf
  have HP := Lib.hid hp
  have HY := Lib.hid hY
  have HJ := Lib.hid hJ
  clear hS hwf hp hY hJ
  refine callsIn_of_wp Try.func91 rfl hF ?_ hro
  simp only [Try.ntmps91, List.size_toArray, List.length_cons, List.length_nil, Nat.reduceAdd, Nat.reduceSub, Array.replicate_succ, Array.replicate_zero, List.push_toArray, List.append_toArray, List.nil_append, List.cons_append]
  gi_wp2
  gi_loopw [4, 5, 8] (fun _ _ i wr => ∃ k : Nat, k ≤ r.length ∧ i = .int .i64 k ∧ J (nums (r.take k)) wr ∧ W.heap.size ≤ wr.heap.size ∧ Hid ((∀ j, O wr j → j < wr.heap.size) ∧ ¬ O wr g ∧ Spans wr (some ⟨g, 0, none⟩) r.length r)) (fun _ _ i _ => r.length - (intOf i).toNat)
  case atStart => exact ⟨0, Nat.zero_le _, rfl, h0, Nat.le_refl _, Lib.hid ⟨HWF.out, hog, HS.out⟩⟩
  case round =>
  obtain ⟨wq, rfl⟩ : ∃ wq : World, wq = wr := ⟨_, rfl⟩
  obtain ⟨k, hk, rfl, hJs, hsz, HH⟩ := hrel
  by_cases hlt : k < r.length
  · obtain ⟨x, hx⟩ : ∃ x, r[k]? = some x := ⟨_, List.getElem?_eq_getElem hlt⟩
    have hxb := PlainF.spw HP.out (Int.le_refl _) x (List.mem_of_getElem? hx)
    have hcs := (HH.out.2.2).at_ hlt
    obtain ⟨bb, off, p, hbo, hp2, hc1, hc2⟩ := hcs
    obtain rfl : p = x := by rw [hx] at hp2; exact (Option.some.inj hp2).symm
    obtain ⟨x1, x2⟩ := p
    simp only at hxb hc1 hc2
    have hbo2 : bb = g ∧ off = 0 := by injection hbo with e; injection e with e1 e2; exact ⟨e1.symm, e2.symm⟩
    obtain ⟨rfl, rfl⟩ := hbo2
    simp only [Nat.zero_add] at hc1 hc2
    have HX := Lib.hid hx
    have hgw := lt_of_cell hc1
    have hJ2 := HJ.out _ _ _ none hJs (World.grownBy_alloc wq (.cells #[.int .i64 x1, .int .i64 x2] 35) none) (fun r e => by cases e)
    clear hx hp2 hbo hJs
    obtain ⟨wo, hwo⟩ : ∃ wo : World, wq.alloc (.cells #[.int .i64 x1, .int .i64 x2] 35) = wo := ⟨_, rfl⟩
    have hbx : wo.cell? ⟨wq.heap.size, 1, none⟩ = some (.int .i64 x2) := by
      have hb := heap_alloc_new wq (.cells #[.int .i64 x1, .int .i64 x2] 35)
      rw [← hwo]; simp only [World.cell?, hb]; rfl
    have HI : Hid ((∀ j, O wo j → j < wo.heap.size) ∧ ¬ O wo bb ∧ Spans wo (some ⟨bb, 0, none⟩) r.length r ∧ ¬ O wo wq.heap.size) := by
      have hsame : ∀ j, O wo j ↔ O wq j := fun j => hO _ _ (fun k hk => by rw [← hwo]; exact Below.heap_alloc _ _ _ (by omega)) j
      refine ⟨fun j hj => ?_, fun h => HH.out.2.1 ((hsame _).1 h), hwo ▸ HH.out.2.2.alloc _, fun h => ?_⟩
      · have := HH.out.1 j ((hsame j).1 hj); rw [← hwo]; simp; omega
      · have := HH.out.1 _ ((hsame _).1 h); omega
    have hso : wo.heap.size = wq.heap.size + 1 := by rw [← hwo]; simp
    rw [hwo] at hJ2
    have HWO := Lib.hid hwo
    clear hwo
    gi_wp2
    rw [HWO.out]
    gi_loopw [5] (fun i wr => ∃ m : Nat, (m : Int) ≤ x2 - x1 + 1 ∧ i = .int .i64 (x1 + m) ∧ J (nums (r.take k) ++ (List.range m).map (fun i : Nat => x1 + (i : Int))) wr ∧ wo.heap.size ≤ wr.heap.size ∧ wr.cell? ⟨wq.heap.size, 1, none⟩ = some (.int .i64 x2) ∧ Hid ((∀ j, O wr j → j < wr.heap.size) ∧ ¬ O wr bb ∧ Spans wr (some ⟨bb, 0, none⟩) r.length r ∧ ¬ O wr wq.heap.size)) (fun i _ => (x2 + 1 - intOf i).toNat)
    case atStart => exact ⟨0, by omega, by simp, by simpa using hJ2, Nat.le_refl _, hbx, HI⟩
    case round =>
    obtain ⟨m, hm, rfl, hJm, hsi, hbi, HM⟩ := hrel
    by_cases hlt2 : x1 + (m : Int) ≤ x2
    · have hst := numsOf_take x1 x2 m (by omega)
      have hpre := nums_part r k x1 x2 HX.out (m + 1) (by omega)
      rw [hst, ← List.append_assoc] at hpre
      have HST := Lib.hid hst
      have HPRE := Lib.hid hpre
      obtain ⟨fn, tmps, assign, body, hy, hR⟩ := HY.out _ (x1 + (m : Int)) wr hJm (by simpa using hpre)
      clear hst hpre
      gi_wp2
      refine hR.mono ?_
      rintro e W3 (⟨rfl, hJ3, hk3⟩ | ⟨rfl, hJx3⟩)
      · have hbw := Nat.lt_of_lt_of_le hgw (Nat.le_trans (by omega : wq.heap.size ≤ wo.heap.size) hsi)
        have hbx3 := hk3.cell ⟨wq.heap.size, 1, none⟩ _ hbi HM.out.2.2.2
        have HM3 : Hid ((∀ j, O W3 j → j < W3.heap.size) ∧ ¬ O W3 bb ∧ Spans W3 (some ⟨bb, 0, none⟩) r.length r ∧ ¬ O W3 wq.heap.size) := by
          refine ⟨hk3.wf HM.out.1, fun h => ?_, ⟨HM.out.2.2.1.1, fun h => ?_⟩, fun h => ?_⟩
          · rcases hk3.own _ h with h1 | h1
            · exact HM.out.2.1 h1
            · omega
          · obtain ⟨b, o, he, hc⟩ := HM.out.2.2.1.2 h
            refine ⟨b, o, he, fun j u hu => hk3.cell _ _ (hc j u hu) ?_⟩
            have e1 : bb = b := by injection he with e; injection e
            rw [← e1]; exact HM.out.2.1
          · rcases hk3.own _ h with h1 | h1
            · exact HM.out.2.2.2 h1
            · omega
        have hs3 := hk3.size
        clear hk3
        gi_wp2
        go_roundw
        case rel => exact ⟨m + 1, by omega, by go_num, by rw [HST.out, ← List.append_assoc]; exact hJ3, by omega, hbx3, HM3⟩
        case measure => simp [intOf]; omega
      · gi_wp2
        refine bodyPost_ret (results_none rfl _ _ _) rfl ?_
        exact ⟨⟨_, rfl⟩, .inr ⟨_, HPRE.out, hJx3⟩⟩
    · obtain hme : (m : Int) = x2 - x1 + 1 := by omega
      have HN := Lib.hid (nums_done r k x1 x2 HX.out m hme)
      clear hme
      gi_wp2
      refine ⟨⟨k + 1, by omega, by go_num, by rw [← HN.out]; exact hJm, by omega, Lib.hid ⟨HM.out.1, HM.out.2.1, HM.out.2.2.1⟩⟩, by simp [intOf]; omega⟩
  · have hd : decide (k < r.length) = false := by simpa using hlt
    obtain rfl : k = r.length := by omega
    gi_wp2
    go_end0
    exact ⟨⟨_, rfl⟩, .inl ⟨_, by rw [List.take_length], hJs⟩⟩
theorem each_stopsO (F : Fence) (n : Nat) (hF : F.fn 91) (hro : F.round = none) (hn : 1 ≤ n) (B0 B g c : Nat) (O : World → Nat → Prop) (hO : OnB B0 O) (r : List Sp) (hp : Plain r) (w : World) (hBu : B0 ≤ w.heap.size) (hwf : ∀ k, O w k → k < w.heap.size) (hog : ¬ O w g)
    (hB : w.cell? ⟨B, 0, none⟩ = some (.slice (some ⟨g, 0, none⟩) r.length c)) (hg : g < w.heap.size) (hS : Spans w (some ⟨g, 0, none⟩) r.length r) :
    SeqStopsK F n Try.prog 91 #[.pointer (some ⟨B, 0, none⟩)] (fun x : Int => #[Value.int .i64 x]) (KpO O) (fun ys => ys = nums r) (fun pre => pre <+: nums r) (nums r).length w := fun l J Jx W hW hJ _ hY h0 => by
  have hs : ∀ j, O W j ↔ O w j := hO _ _ fun k hk => hW.block k (by omega)
  exact each_in F n hF hro hn l B0 B g c O hO r hp J Jx (fun pre x W hJ hpx => hY pre x W hJ (by have := hpx.length_le; rw [List.length_append] at this; simp at this; omega)) W hJ (Nat.le_trans hBu hW.size) (fun k hk => Nat.lt_of_lt_of_le (hwf k ((hs k).1 hk)) hW.size) (fun h => hog ((hs g).1 h)) (Nat.lt_of_lt_of_le hg hW.size)
    ((hW.cell (lt_of_cell hB)).trans hB) (hS.below hW) h0
theorem each_stops (F : Fence) (n : Nat) (hF : F.fn 91) (hro : F.round = none) (hn : 1 ≤ n) (lo hi Bu B g c : Nat) (r : List Sp) (hp : Plain r) (w : World) (hBu : Bu < w.heap.size) (hwf : ∀ k, OwnB lo hi Bu w k → k < w.heap.size) (hog : ¬ OwnB lo hi Bu w g)
    (hB : w.cell? ⟨B, 0, none⟩ = some (.slice (some ⟨g, 0, none⟩) r.length c)) (hg : g < w.heap.size) (hS : Spans w (some ⟨g, 0, none⟩) r.length r) :
    SeqStopsK F n Try.prog 91 #[.pointer (some ⟨B, 0, none⟩)] (fun x : Int => #[Value.int .i64 x]) (KpB lo hi Bu) (fun ys => ys = nums r) (fun pre => pre <+: nums r) (nums r).length w :=
  each_stopsO F n hF hro hn w.heap.size B g c (OwnB lo hi Bu) (ownB_on hBu) r hp w (Nat.le_refl _) hwf hog hB hg hS
end Go.Proofs.Ytlmkokeapbleoaa
end
section
namespace Go.Proofs.Ytlmkokeapbleoaa
open Go.RowKit
theorem div_span {D x1 x2 y : Int} (hD : 1 ≤ D) (hx : x1 ≤ x2) : (∃ x, x1 ≤ x ∧ x ≤ x2 ∧ x / D = y) ↔ (x1 / D ≤ y ∧ y ≤ x2 / D) := by
  constructor
  · rintro ⟨x, h1, h2, rfl⟩
    exact ⟨Int.ediv_le_ediv (by omega) h1, Int.ediv_le_ediv (by omega) h2⟩
  · rintro ⟨h1, h2⟩
    have h3 : y * D ≤ x2 := (Int.le_ediv_iff_mul_le (by omega)).1 h2
    by_cases h : x1 ≤ y * D
    · exact ⟨y * D, h, h3, Int.mul_ediv_cancel _ (by omega)⟩
    · have : y ≤ x1 / D := (Int.le_ediv_iff_mul_le (by omega)).2 (by omega)
      exact ⟨x1, Int.le_refl _, hx, by omega⟩
theorem res_all {T lo hi v : Int} (hT : 1 ≤ T) (h : T - 1 ≤ hi - lo) (h0 : 0 ≤ v) (h1 : v < T) : ∃ y, lo ≤ y ∧ y ≤ hi ∧ y % T = v := by
  have g0 := Int.emod_nonneg (v - lo) (b := T) (by omega)
  have g1 := Int.emod_lt_of_pos (v - lo) (b := T) (by omega)
  refine ⟨lo + (v - lo) % T, by omega, by omega, ?_⟩
  rw [Int.add_emod_emod, show lo + (v - lo) = v by omega]
  exact Int.emod_eq_of_lt h0 h1
theorem div_eq {T lo q m : Int} (h : lo = T * q + m) (h0 : 0 ≤ m) (h1 : m < T) : lo / T = q ∧ lo % T = m := by
  subst h
  have hT : T ≠ 0 := by omega
  constructor
  · rw [Int.add_comm, Int.add_mul_ediv_left _ _ hT, Int.ediv_eq_zero_of_lt h0 h1]; omega
  · rw [Int.add_comm, Int.add_mul_emod_self_left]; exact Int.emod_eq_of_lt h0 h1
theorem res_span {T lo hi v : Int} (hT : 1 ≤ T) (hl : lo ≤ hi) (h : hi - lo < T - 1) :
    (∃ y, lo ≤ y ∧ y ≤ hi ∧ y % T = v) ↔ (if lo % T ≤ hi % T then lo % T ≤ v ∧ v ≤ hi % T else (0 ≤ v ∧ v ≤ hi % T) ∨ (lo % T ≤ v ∧ v ≤ T - 1)) := by
  have a0 := Int.emod_nonneg lo (b := T) (by omega)
  have a1 := Int.emod_lt_of_pos lo (b := T) (by omega)
  have b0 := Int.emod_nonneg hi (b := T) (by omega)
  have b1 := Int.emod_lt_of_pos hi (b := T) (by omega)
  have ea := Int.mul_ediv_add_emod lo T
  have eb := Int.mul_ediv_add_emod hi T
  have hq : lo / T ≤ hi / T := Int.ediv_le_ediv (by omega) hl
  have hcase : hi / T = lo / T ∨ hi / T = lo / T + 1 ∨ lo / T + 2 ≤ hi / T := by omega
  have h2 : lo / T + 2 ≤ hi / T → False := by
    intro g
    have := Int.mul_le_mul_of_nonneg_left g (show 0 ≤ T by omega)
    rw [Int.mul_add] at this
    omega
  have hstep : T * (lo / T + 1) = T * (lo / T) + T := by rw [Int.mul_add, Int.mul_one]
  split
  · rename_i hle
    have e : hi / T = lo / T := by
      rcases hcase with e | e | e
      · exact e
      · rw [e, hstep] at eb; omega
      · exact (h2 e).elim
    rw [e] at eb
    constructor
    · rintro ⟨y, g1, g2, rfl⟩
      have ey := Int.mul_ediv_add_emod y T
      have q1 : lo / T ≤ y / T := Int.ediv_le_ediv (by omega) g1
      have q2 : y / T ≤ hi / T := Int.ediv_le_ediv (by omega) g2
      have : y / T = lo / T := by omega
      rw [this] at ey
      omega
    · rintro ⟨g1, g2⟩
      exact ⟨T * (lo / T) + v, by omega, by omega, (div_eq rfl (by omega) (by omega)).2⟩
  · rename_i hle
    have e : hi / T = lo / T + 1 := by
      rcases hcase with e | e | e
      · rw [e] at eb; omega
      · exact e
      · exact (h2 e).elim
    rw [e, hstep] at eb
    constructor
    · rintro ⟨y, g1, g2, rfl⟩
      have ey := Int.mul_ediv_add_emod y T
      have y0 := Int.emod_nonneg y (b := T) (by omega)
      have y1 := Int.emod_lt_of_pos y (b := T) (by omega)
      have q1 : lo / T ≤ y / T := Int.ediv_le_ediv (by omega) g1
      have q2 : y / T ≤ hi / T := Int.ediv_le_ediv (by omega) g2
      have : y / T = lo / T ∨ y / T = lo / T + 1 := by omega
      rcases this with q | q
      · rw [q] at ey; right; omega
      · rw [q, hstep] at ey; left; omega
    · rintro (⟨g1, g2⟩ | ⟨g1, g2⟩)
      · exact ⟨T * (lo / T + 1) + v, by rw [hstep]; omega, by rw [hstep]; omega, (div_eq rfl (by omega) (by omega)).2⟩
      · exact ⟨T * (lo / T) + v, by omega, by omega, (div_eq rfl (by omega) (by omega)).2⟩
theorem InS_one (a b x : Int) : InS [(a, b)] x ↔ (a ≤ x ∧ x ≤ b) := by simp [InS]
theorem InS_take_succ {m : List Sp} {k : Nat} {p : Sp} (h : m[k]? = some p) (x : Int) : InS (m.take (k + 1)) x ↔ (InS (m.take k) x ∨ (p.1 ≤ x ∧ x ≤ p.2)) := by
  rw [take_snoc? h, InS_append]; simp [InS]
def ImInv (D T : Int) (m : List Sp) (o : List Sp) : Prop := (∀ v, InS o v ↔ ∃ x, InS m x ∧ x / D % T = v) ∧ ∀ p ∈ o, 0 ≤ p.1 ∧ p.1 ≤ p.2 ∧ p.2 ≤ T - 1
theorem ImInv.start (D T : Int) : ImInv D T [] [] := ⟨fun v => by simp [InS], by simp⟩
theorem im_span {D T : Int} (hD : 1 ≤ D) {x1 x2 : Int} (hx : x1 ≤ x2) (v : Int) : (∃ x, x1 ≤ x ∧ x ≤ x2 ∧ x / D % T = v) ↔ ∃ y, x1 / D ≤ y ∧ y ≤ x2 / D ∧ y % T = v := by
  constructor
  · rintro ⟨x, h1, h2, h3⟩
    have := (div_span hD hx).1 ⟨x, h1, h2, rfl⟩
    exact ⟨_, this.1, this.2, h3⟩
  · rintro ⟨y, h1, h2, h3⟩
    obtain ⟨x, g1, g2, rfl⟩ := (div_span hD hx).2 ⟨h1, h2⟩
    exact ⟨x, g1, g2, h3⟩
theorem ImInv.next {D T : Int} {m : List Sp} {o : List Sp} {k : Nat} {x1 x2 : Int} {n : List Sp} (h : ImInv D T (m.take k) o) (hx : m[k]? = some (x1, x2))
    (hn : ∀ v, InS n v ↔ ∃ x, x1 ≤ x ∧ x ≤ x2 ∧ x / D % T = v) (hb : ∀ p ∈ n, 0 ≤ p.1 ∧ p.1 ≤ p.2 ∧ p.2 ≤ T - 1) : ImInv D T (m.take (k + 1)) (o ++ n) := by
  refine ⟨fun v => ?_, fun p hp => ?_⟩
  · rw [InS_append, h.1, hn]
    constructor
    · rintro (⟨x, g1, g2⟩ | ⟨x, g1, g2, g3⟩)
      · exact ⟨x, (InS_take_succ hx x).2 (.inl g1), g2⟩
      · exact ⟨x, (InS_take_succ hx x).2 (.inr ⟨g1, g2⟩), g3⟩
    · rintro ⟨x, g1, g2⟩
      rcases (InS_take_succ hx x).1 g1 with g | g
      · exact .inl ⟨x, g, g2⟩
      · exact .inr ⟨x, g.1, g.2, g2⟩
  · rcases List.mem_append.1 hp with g | g
    · exact h.2 p g
    · exact hb p g
theorem ImInv.one {D T : Int} {m : List Sp} {o : List Sp} {k : Nat} {x1 x2 : Int} (hD : 1 ≤ D) (hT : 1 ≤ T) (h : ImInv D T (m.take k) o) (hx : m[k]? = some (x1, x2)) (hxx : x1 ≤ x2)
    (hs : x2 / D - x1 / D < T - 1) (hle : x1 / D % T ≤ x2 / D % T) : ImInv D T (m.take (k + 1)) (o ++ [(x1 / D % T, x2 / D % T)]) := by
  have a0 := Int.emod_nonneg (x1 / D) (b := T) (by omega)
  have b1 := Int.emod_lt_of_pos (x2 / D) (b := T) (by omega)
  refine h.next hx (fun v => ?_) (fun p hp => by simp at hp; subst hp; simp only; omega)
  rw [InS_one, im_span hD hxx, res_span hT (Int.ediv_le_ediv (by omega) hxx) hs, if_pos hle]
theorem ImInv.two {D T : Int} {m : List Sp} {o : List Sp} {k : Nat} {x1 x2 : Int} (hD : 1 ≤ D) (hT : 1 ≤ T) (h : ImInv D T (m.take k) o) (hx : m[k]? = some (x1, x2)) (hxx : x1 ≤ x2)
    (hs : x2 / D - x1 / D < T - 1) (hle : ¬ x1 / D % T ≤ x2 / D % T) : ImInv D T (m.take (k + 1)) (o ++ [(0, x2 / D % T), (x1 / D % T, T - 1)]) := by
  have a0 := Int.emod_nonneg (x1 / D) (b := T) (by omega)
  have a1 := Int.emod_lt_of_pos (x1 / D) (b := T) (by omega)
  have b0 := Int.emod_nonneg (x2 / D) (b := T) (by omega)
  have b1 := Int.emod_lt_of_pos (x2 / D) (b := T) (by omega)
  refine h.next hx (fun v => ?_) (fun p hp => by simp at hp; rcases hp with rfl | rfl <;> simp only <;> omega)
  rw [im_span hD hxx, res_span hT (Int.ediv_le_ediv (by omega) hxx) hs, if_neg hle]
  simp [InS]
theorem ImInv.full {D T : Int} {m : List Sp} {k : Nat} {x1 x2 : Int} (hD : 1 ≤ D) (hT : 1 ≤ T) (hx : m[k]? = some (x1, x2)) (hxx : x1 ≤ x2)
    (hs : T - 1 ≤ x2 / D - x1 / D) : ImInv D T m [(0, T - 1)] := by
  refine ⟨fun v => ?_, fun p hp => by simp at hp; subst hp; simp only; omega⟩
  rw [InS_one]
  constructor
  · rintro ⟨h0, h1⟩
    obtain ⟨x, g1, g2, g3⟩ := (im_span hD hxx v).2 (res_all hT hs h0 (by omega))
    exact ⟨x, InS_of_mem (List.mem_of_getElem? hx) g1 g2, g3⟩
  · rintro ⟨x, _, rfl⟩
    have := Int.emod_nonneg (x / D) (b := T) (by omega)
    have := Int.emod_lt_of_pos (x / D) (b := T) (by omega)
    omega
theorem nums_mem (r : List Sp) (x : Int) : x ∈ nums r ↔ InS r x := by
  rw [InS_iff]
  simp only [nums, List.mem_flatMap, numsOf, List.mem_map, List.mem_range]
  constructor
  · rintro ⟨p, hp, i, hi, rfl⟩
    exact ⟨p, hp, by omega, by omega⟩
  · rintro ⟨p, hp, h1, h2⟩
    exact ⟨p, hp, (x - p.1).toNat, by omega, by omega⟩
def ImgS (d t u : Int) (a : List Sp) (v : Int) : Prop := bitsB d t u = true ∧ ∃ x, Mem a x ∧ 0 ≤ x ∧ x ≤ 2097151 ∧ pval d t u x = v
def topM (a : List Sp) (x : Int) : Prop := Mem a x ∧ Mem [(0, 2097151)] x
theorem topM_iff (a : List Sp) (x : Int) : topM a x ↔ (Mem a x ∧ 0 ≤ x ∧ x ≤ 2097151) := by
  constructor
  · rintro ⟨h, _, _, h3⟩
    exact ⟨h, (InS_one _ _ _).1 h3⟩
  · rintro ⟨h, h3⟩
    exact ⟨h, h.1, h.2.1, (InS_one _ _ _).2 h3⟩
theorem rep_img (d t u : Int) (a : List Sp) : ∃ r, Hid (Rep r (ImgS d t u a)) := rep_all _ fun v ⟨hb, x, _, _, _, hv⟩ => by have := pval_bd hb x; omega
theorem ImInv.rep0 {d t : Int} {a m o r : List Sp} (hb : bitsB d t 0 = true) (hm : Rep m (topM a)) (h : ImInv (pw d) (pw t) m o) (hr : Rep r (Mem o)) : Rep r (ImgS d t 0 a) := by
  refine hr.congr fun v => ?_
  have ht := pw_le21 (n := t) (by have := (bitsB_iff _ _ _).1 hb; omega) (by have := (bitsB_iff _ _ _).1 hb; omega)
  have e : Mem o v ↔ InS o v := by
    refine ⟨fun h => h.2.2, fun hv => ?_⟩
    obtain ⟨p, hp, g1, g2⟩ := (InS_iff _ _).1 hv
    have := h.2 p hp
    exact ⟨by omega, by omega, hv⟩
  rw [e, h.1]
  unfold ImgS
  simp only [hm.2, topM_iff, hb, true_and, pval]
  have e0 : pw 0 = 1 := rfl
  simp only [e0, Int.mul_one, and_assoc]
theorem ImInv.repU {d t u : Int} {a m o r : List Sp} (hb : bitsB d t u = true) (hm : Rep m (topM a)) (h : ImInv (pw d) (pw t) m o) (hr : Rep r (Mem o)) {s : List Sp}
    (hs : Rep s (Mem ((nums r).map fun v => (v * pw u, v * pw u)))) : Rep s (ImgS d t u a) := by
  refine hs.congr fun v => ?_
  obtain ⟨b1, b2, b3, b4, b5, b6, b7⟩ := (bitsB_iff _ _ _).1 hb
  have ht := pw_le21 (n := t) (by omega) b4
  have e : ∀ y, InS r y ↔ InS o y := fun y => by
    rw [hr.2]
    refine ⟨fun h => h.2.2, fun hv => ?_⟩
    obtain ⟨p, hp, g1, g2⟩ := (InS_iff _ _).1 hv
    have := h.2 p hp
    exact ⟨by omega, by omega, hv⟩
  have e2 : InS ((nums r).map fun v => (v * pw u, v * pw u)) v ↔ ∃ y, InS r y ∧ y * pw u = v := by
    rw [InS_iff]
    constructor
    · rintro ⟨p, hp, g1, g2⟩
      obtain ⟨y, hy, rfl⟩ := List.mem_map.1 hp
      exact ⟨y, (nums_mem r y).1 hy, by simp only at g1 g2; omega⟩
    · rintro ⟨y, hy, rfl⟩
      exact ⟨_, List.mem_map.2 ⟨y, (nums_mem r y).2 hy, rfl⟩, Int.le_refl _, Int.le_refl _⟩
  have e3 : ImgS d t u a v ↔ ∃ y, InS r y ∧ y * pw u = v := by
    unfold ImgS
    constructor
    · rintro ⟨_, x, hx, h0, h1, rfl⟩
      exact ⟨_, (e _).2 ((h.1 _).2 ⟨x, (hm.2 x).2 ((topM_iff a x).2 ⟨hx, h0, h1⟩), rfl⟩), rfl⟩
    · rintro ⟨y, hy, rfl⟩
      obtain ⟨x, hx, rfl⟩ := (h.1 _).1 ((e _).1 hy)
      obtain ⟨g1, g2, g3⟩ := (topM_iff a x).1 ((hm.2 x).1 hx)
      exact ⟨hb, x, g1, g2, g3, rfl⟩
  rw [e3, ← e2]
  refine ⟨fun g => g.2.2, fun g => ⟨?_, ?_, g⟩⟩
  all_goals
    obtain ⟨_, x, _, _, _, hv⟩ := e3.2 (e2.1 g)
    have := pval_bd hb x
    omega
theorem PlainF.len_in {a lo hi : Int} {l : List Sp} (h : PlainF a l) (hlo : ∀ x, InS l x → lo ≤ x) (hhi : ∀ x, InS l x → x ≤ hi) (hle : lo ≤ hi + 1) : 2 * (l.length : Int) ≤ hi - lo + 2 := by
  induction l generalizing a lo with
  | nil => simp; omega
  | cons p l ih =>
    obtain ⟨h1, h2, h3, h4⟩ := h
    have g1 := hlo p.1 (.inl ⟨by omega, h2⟩)
    have g2 := hhi p.2 (.inl ⟨h2, by omega⟩)
    cases l with
    | nil => simp; omega
    | cons q l =>
      have g3 := hhi q.1 (.inr (.inl ⟨by omega, h4.2.1⟩))
      have g4 := h4.1
      have := ih h4 (lo := p.2 + 2) (fun x hx => by have := h4.low hx; omega) (fun x hx => hhi x (.inr hx)) (by omega)
      simp only [List.length_cons] at this ⊢
      omega
theorem topM_len {a m : List Sp} (h : Rep m (topM a)) : m.length ≤ 1048576 := by
  have := PlainF.len_in h.1 (lo := 0) (hi := 2097151) (fun x hx => ((topM_iff a x).1 ((h.2 x).1 hx)).2.1) (fun x hx => ((topM_iff a x).1 ((h.2 x).1 hx)).2.2) (by omega)
  omega
theorem topM_mem {a m : List Sp} (h : Rep m (topM a)) {k : Nat} {x1 x2 : Int} (hk : m[k]? = some (x1, x2)) : 0 ≤ x1 ∧ x1 ≤ x2 ∧ x2 ≤ 2097151 := by
  have hp := PlainF.mem h.1 (List.mem_of_getElem? hk)
  have h12 : x1 ≤ x2 := by simp only at hp; omega
  have g1 := (topM_iff a x1).1 ((h.2 x1).1 (InS_of_mem (List.mem_of_getElem? hk) (Int.le_refl _) h12))
  have g2 := (topM_iff a x2).1 ((h.2 x2).1 (InS_of_mem (List.mem_of_getElem? hk) h12 (Int.le_refl _)))
  omega
end Go.Proofs.Ytlmkokeapbleoaa
end
