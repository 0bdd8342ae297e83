/- Contracts and plain laws that the proof leans on. Condition: as each theorem says. -/
import Derived.Test.YtlmkokeapbleoaaGreatP01
import Derived.Test.YtlmkokeapbleoaaGreatP04
import Derived.Laws.Tables
import Derived.Deep.RegionHeld3
import Derived.Deep.DeepCutAuto
import Derived.Deep.OwnRows
import Derived.Laws.OwnMore
import Derived.Deep.RegionWith
set_option maxRecDepth 100000
set_option maxHeartbeats 64000000
set_option linter.unusedVariables false
set_option linter.unusedSimpArgs false
namespace Go.Proofs.YtlmkokeapbleoaaGreat
open Go.RowKit
section
structure Only (pb : Nat) (r : Option Nat) (w w' : World) : Prop where
 os : w'.os = w.os
 tape : w'.tape = w.tape
 output : w'.output = w.output
 size : w.heap.size ≤ w'.heap.size
 block : ∀ k, k < w.heap.size → k ≠ pb → some k ≠ r → w'.heap[k]? = w.heap[k]?
def Newer (r r' : Option Nat) (n : Nat) : Prop := r' = r ∨ ∃ g, r' = some g ∧ n ≤ g
theorem Newer.refl (r : Option Nat) (n : Nat) : Newer r r n := .inl rfl
theorem Newer.trans {r r1 r2 : Option Nat} {n m : Nat} (h : Newer r r1 n) (k : Newer r1 r2 m) (hm : n ≤ m) : Newer r r2 n := by
 rcases k with rfl | ⟨g, rfl, hg⟩
 ·exact h
 ·exact .inr ⟨g, rfl, Nat.le_trans hm hg⟩
theorem Only.refl (pb : Nat) (r : Option Nat) (w : World) : Only pb r w w := ⟨rfl, rfl, rfl, Nat.le_refl _, fun _ _ _ _ => rfl⟩
theorem Only.trans {pb : Nat} {r r1 : Option Nat} {a b c : World} (h : Only pb r a b) (k : Only pb r1 b c) (hr : Newer r r1 a.heap.size) : Only pb r a c :=
 ⟨k.os.trans h.os, k.tape.trans h.tape, k.output.trans h.output, Nat.le_trans h.size k.size, fun i hi h1 h2 => by
  refine (k.block i (Nat.lt_of_lt_of_le hi h.size) h1 ?_).trans (h.block i hi h1 h2)
  rcases hr with rfl | ⟨g, rfl, hg⟩
  ·exact h2
  ·intro e; injection e with e; omega⟩
theorem Only.alloc {pb : Nat} {r : Option Nat} {a b : World} (h : Only pb r a b) (o : Obj) : Only pb r a (b.alloc o) :=
 ⟨h.os, h.tape, h.output, Nat.le_trans h.size (by simp), fun k hk h1 h2 => (Below.heap_alloc _ _ _ (Nat.lt_of_lt_of_le hk h.size)).trans (h.block k hk h1 h2)⟩
theorem Only.drewN {pb : Nat} {r : Option Nat} {a b : World} (h : Only pb r a b) (n : Nat) : Only pb r a (b.drewN n) := ⟨h.os, h.tape, h.output, h.size, h.block⟩
theorem Only.setCell {pb : Nat} {r : Option Nat} {a b : World} (h : Only pb r a b) (i : Nat) (u : Value) : Only pb r a (b.setCell ⟨pb, i, none⟩ u) :=
 ⟨h.os, h.tape, h.output, Nat.le_trans h.size (by simp [World.setCell]), fun k hk h1 h2 => (Below.heap_setCell _ _ _ _ h1).trans (h.block k hk h1 h2)⟩
theorem Only.grown {pb : Nat} {r r1 : Option Nat} {a b c : World} (h : Only pb r a b) (hg : b.grownBy c r1) (hr : Newer r r1 a.heap.size) : Only pb r a c :=
 ⟨hg.os.trans h.os, hg.tape.trans h.tape, hg.output.trans h.output, Nat.le_trans h.size hg.size, fun k hk h1 h2 => by
  refine (hg.block k (Nat.lt_of_lt_of_le hk h.size) ?_).trans (h.block k hk h1 h2)
  rcases hr with rfl | ⟨g, rfl, hg2⟩
  ·exact h2
  ·intro e; injection e with e; omega⟩
theorem Only.of_below {pb : Nat} {r : Option Nat} {a b : World} (h : Below a.heap.size a b) : Only pb r a b := ⟨h.os, h.tape, h.output, h.size, fun k hk _ _ => h.block k hk⟩
theorem Only.below {pb B : Nat} {r : Option Nat} {a b : World} (h : Only pb r a b) (hp : B ≤ pb) (hr : ∀ g, r = some g → B ≤ g) (hB : B ≤ a.heap.size) : Below B a b :=
 ⟨h.os, h.tape, h.output, h.size, fun k hk => h.block k (by omega) (by omega) (fun e => by have := hr k e.symm; omega)⟩
def ownA (A : Option Addr) : Option Nat := A.map (·.block)
theorem own_ownA (A : Option Addr) (n c : Nat) : Value.ownBlock (.slice A n c) = ownA A := by cases A <;> rfl
def Dep (P : Nat → Prop) (w : World) (G : World → Prop) : Prop := ∀ W, (∀ k, P k → k < w.heap.size → W.heap[k]? = w.heap[k]?) → G W
section
variable {P P' : Nat → Prop} {w w' : World} {G : World → Prop}
theorem Dep.now (h : Dep P w G) : G w := h w fun _ _ _ => rfl
theorem Dep.step (h : Dep P w G) (hk : ∀ k, P k → k < w.heap.size → w'.heap[k]? = w.heap[k]?) (hs : w.heap.size ≤ w'.heap.size) (hP : ∀ k, P k → k < w.heap.size → P' k) : Dep P' w' G :=
 fun W hW => h W fun k hp hl => (hW k (hP k hp hl) (Nat.lt_of_lt_of_le hl hs)).trans (hk k hp hl)
theorem Dep.mono (h : Dep P w G) (hP : ∀ k, P k → k < w.heap.size → P' k) : Dep P' w G := h.step (fun _ _ _ => rfl) (Nat.le_refl _) hP
theorem Dep.st (h : Dep P w G) : ∀ W, Below w.heap.size w W → G W := fun W hW => h W fun k _ hl => hW.block k hl
end
theorem own_keep {w w' : World} {base size : Nat} {t : TypeId} {A : Option Addr} {c n : Nat} {xs : List Value} (h : w.ownsRow base t size (.slice A n c) n xs) (hk : ∀ k, ownA A = some k → w'.heap[k]? = w.heap[k]?) : w'.ownsRow base t size (.slice A n c) n xs := by
 refine ⟨h.1, ?_⟩
 rcases h.2 with hn | ⟨g, cap, cur, h1, h2, h3, h4⟩
 ·exact .inl hn
 ·refine .inr ⟨g, cap, cur, h1, h2, (hk g ?_).trans h3, h4⟩
  rw [← own_ownA A n c, h1]; rfl
structure GoRow {α : Type} (n : Nat) (t : TypeId) (size : Nat) (f : α → List Value) (R : α → World → Prop) (A : Option Addr) (c : Nat) (L : List α) (W : World) : Prop where
 own : W.ownsRow n t size (.slice A L.length c) L.length (L.flatMap f)
 dep : ∀ x ∈ L, Dep (fun k => n ≤ k ∧ some k ≠ ownA A) W (R x)
section
variable {α : Type} {n : Nat} {t : TypeId} {size : Nat} {f : α → List Value} {R : α → World → Prop} {A : Option Addr} {c : Nat} {L : List α} {W W' : World}
theorem GoRow.rlt (h : GoRow n t size f R A c L W) : ∀ k, ownA A = some k → n ≤ k ∧ k < W.heap.size := fun k hk => h.own.lt k (by rw [own_ownA]; exact hk)
theorem GoRow.keep (h : GoRow n t size f R A c L W) (hs : W.heap.size ≤ W'.heap.size) (hk : ∀ k, n ≤ k → k < W.heap.size → W'.heap[k]? = W.heap[k]?) : GoRow n t size f R A c L W' :=
 ⟨own_keep h.own fun k hA => hk k (h.rlt k hA).1 (h.rlt k hA).2, fun x hx => (h.dep x hx).step (fun k hp hl => hk k hp.1 hl) hs fun k hp _ => hp⟩
theorem GoRow.alloc (h : GoRow n t size f R A c L W) (o : Obj) : GoRow n t size f R A c L (W.alloc o) := h.keep (by simp) fun k _ hl => Below.heap_alloc _ _ _ hl
theorem GoRow.drewN (h : GoRow n t size f R A c L W) (q : Nat) : GoRow n t size f R A c L (W.drewN q) := h.keep (Nat.le_refl _) fun k _ hl => rfl
theorem GoRow.set (h : GoRow n t size f R A c L W) (b i : Nat) (v : Value) (hb : b < n) : GoRow n t size f R A c L (W.setCell ⟨b, i, none⟩ v) :=
 h.keep (by simp [World.setCell]) fun k hk _ => heap_setCell_other _ _ _ _ (fun e => by have e : k = b := e; omega)
theorem GoRow.nil_ (n : Nat) (t : TypeId) (size : Nat) (f : α → List Value) (R : α → World → Prop) (W : World) : GoRow n t size f R none 0 [] W :=
 ⟨⟨by simp, .inl ⟨rfl, rfl⟩⟩, fun x hx => by cases hx⟩
theorem GoRow.push (h : GoRow n t size f R A c L W) {A' : Option Addr} {c' : Nat} {x : α} {o : Obj} (ho : W'.ownsRow n t size (.slice A' (L.length + 1) c') (L.length + 1) (L.flatMap f ++ f x))
  (hg : (W.alloc o).grownBy W' (ownA A)) (hn : Newer (ownA A) (ownA A') (W.heap.size + 1)) (hx : Dep (fun k => n ≤ k ∧ some k ≠ ownA A) W (R x)) : GoRow n t size f R A' c' (L ++ [x]) W' := by
 have hs : W.heap.size ≤ W'.heap.size := Nat.le_trans (by simp) hg.size
 have hd : ∀ G, Dep (fun k => n ≤ k ∧ some k ≠ ownA A) W G → Dep (fun k => n ≤ k ∧ some k ≠ ownA A') W' G := fun G hG => hG.step
  (fun k hp hl => (hg.block k (by simp; omega) hp.2).trans (Below.heap_alloc _ _ _ hl)) hs
  (fun k hp hl => ⟨hp.1, by
   rcases hn with e | ⟨g, e, hgl⟩
   ·rw [e]; exact hp.2
   ·rw [e]; intro e2; injection e2 with e2; omega⟩)
 refine ⟨?_, fun y hy => ?_⟩
 ·rw [List.length_append, List.flatMap_append]
  simpa using ho
 ·rcases List.mem_append.1 hy with hy | hy
  ·exact hd _ (h.dep y hy)
  ·rw [List.mem_singleton] at hy; subst hy; exact hd _ hx
theorem GoRow.rows (h : GoRow n t size f R A c L W) (hl : L.length ≤ 9223372036854775807) : Dep (fun k => n ≤ k) W (RowsAt size f R A L) := fun V hV =>
 ⟨Sl.of_own (own_keep h.own fun k hk => hV k (h.rlt k hk).1 (h.rlt k hk).2), fun x hx => h.dep x hx V fun k hp hk => hV k hp.1 hk, hl⟩
end
section
variable {P : Program} {w0 : World} {ops : Array Oper} {rest : List Oper} {o : Oper} {a : Act} {Q : Exit → Act → World → Prop}
theorem run_pushG (t ty : TypeId) (base : Nat) (e : TypeId) (i : TypeInfo) (z : Value) (size bytes : Nat) (ht : P.underlying t = some (.slice e)) (hi : P.info? e = some i) (hz : i.zero = some z)
  (hsize : i.size = size) (hby : i.bytes = bytes) (hzs : z.cells.size = size) (hsz : 0 < size)
  {A : Option Addr} {c n : Nat} {xs : List Value} (hown : w0.ownsRow base e size (.slice A n c) n xs) (news : List Value) (e' : TypeId) (hl : news.length = size) (h1 : ∀ u ∈ news, u.oneCell' = true)
  (hn : n < 1099511627776) (hb : bytes ≤ 128) (hbase : base ≤ w0.heap.size) :
  ∃ A' c' w', (Builtin.append_ #[t, t] ty #[.slice A n c, .slice (some ⟨w0.heap.size, 0, none⟩) 1 1]).run P (w0.alloc (.cells news.toArray e')) = .ok (.slice A' (n + 1) c') w' ∧
   Hid (w'.ownsRow base e size (.slice A' (n + 1) c') (n + 1) (xs ++ news)) ∧ Hid ((w0.alloc (.cells news.toArray e')).grownBy w' (ownA A)) ∧ Hid (Newer (ownA A) (ownA A') (w0.heap.size + 1)) := by
 obtain ⟨v', w', r1, r2, r3, _, r5⟩ := run_append_own_at (P := P) (w0.alloc (.cells news.toArray e')) base t ty e i z size bytes ht hi hz hsize hby hzs hsz (.slice A n c) n xs (hown.alloc _) ⟨w0.heap.size, 0, none⟩ 1 1 news (by omega)
  (by
   intro j u hu
   have e0 : (⟨w0.heap.size, 0, none⟩ : Addr).add j = ⟨w0.heap.size, 0 + j, none⟩ := by unfold Addr.add; split <;> simp_all
   rw [e0]
   have hb0 : (w0.alloc (.cells news.toArray e')).heap[w0.heap.size]? = some (.cells news.toArray e' (0, 0)) := heap_alloc_new w0 _
   simp only [World.cell?, hb0]
   simpa using hu)
  h1 (by unfold maxLen; omega) (by have : (n + 1) * bytes ≤ (n + 1) * 128 := Nat.mul_le_mul_left _ hb; omega) (by simp; omega)
 obtain ⟨A', c', rfl⟩ := own_shape r2
 rw [own_ownA] at r3 r5
 rw [own_ownA] at r5
 refine ⟨A', c', w', r1, Lh r2, Lh r3, Lh ?_⟩
 rcases r5 with h | h
 ·exact .inl h
 ·exact .inr ⟨_, h, by simp⟩
theorem wpList_pushG (hgd : o.guard = none) (s x : Operand) (t : TypeId)
  (ho : o.op = .call { callee := .builtin .append, args := #[s, x], argTypes := #[t, t] })
  (base : Nat) (e : TypeId) (i : TypeInfo) (z : Value) (size bytes : Nat) (ht : P.underlying t = some (.slice e)) (hi : P.info? e = some i) (hz : i.zero = some z)
  (hsize : i.size = size) (hby : i.bytes = bytes) (hzs : z.cells.size = size) (hsz : 0 < size)
  {A : Option Addr} {c n : Nat} {xs : List Value} (hown : w0.ownsRow base e size (.slice A n c) n xs) (hs : a.eval s = .slice A n c)
  (news : List Value) (e' : TypeId) (hx : a.eval x = .slice (some ⟨w0.heap.size, 0, none⟩) 1 1) (hl : news.length = size) (h1 : ∀ u ∈ news, u.oneCell' = true)
  (hn : n < 1099511627776) (hb : bytes ≤ 128) (hbase : base ≤ w0.heap.size)
  (h : ∀ A' c' w', Hid (w'.ownsRow base e size (.slice A' (n + 1) c') (n + 1) (xs ++ news)) → Hid ((w0.alloc (.cells news.toArray e')).grownBy w' (ownA A)) → Hid (Newer (ownA A) (ownA A') (w0.heap.size + 1)) → wpList P ops Q rest (a.put o.dst (.slice A' (n + 1) c')) w') :
  wpList P ops Q (o :: rest) a (w0.alloc (.cells news.toArray e')) := by
 refine wpList_plain hgd fun K hK => ?_
 obtain ⟨A', c', w', hr, k1, k2, k3⟩ := run_pushG (P := P) t o.type base e i z size bytes ht hi hz hsize hby hzs hsz hown news e' hl h1 hn hb hbase
 unfold Oper.wp execOp
 simp only [ho, resolve, invoke, builtin, Sem.run_bind, Sem.run_pure, Result.andThen_ok, List.map_toArray, List.map_cons, List.map_nil, hs, hx, hr]
 exact hK _ _ (h A' c' w' k1 k2 k3)
theorem step_pushG {K : Act → World → Prop} {E : Prop} (hgd : o.guard = none) (s x : Operand) (t : TypeId)
  (ho : o.op = .call { callee := .builtin .append, args := #[s, x], argTypes := #[t, t] })
  (base : Nat) (e : TypeId) (i : TypeInfo) (z : Value) (size bytes : Nat) (ht : P.underlying t = some (.slice e)) (hi : P.info? e = some i) (hz : i.zero = some z)
  (hsize : i.size = size) (hby : i.bytes = bytes) (hzs : z.cells.size = size) (hsz : 0 < size)
  {A : Option Addr} {c n : Nat} {xs : List Value} (hown : w0.ownsRow base e size (.slice A n c) n xs) (hs : a.eval s = .slice A n c)
  (news : List Value) (e' : TypeId) (hx : a.eval x = .slice (some ⟨w0.heap.size, 0, none⟩) 1 1) (hl : news.length = size) (h1 : ∀ u ∈ news, u.oneCell' = true)
  (hn : n < 1099511627776) (hb : bytes ≤ 128) (hbase : base ≤ w0.heap.size)
  (h : ∀ A' c' w', Hid (w'.ownsRow base e size (.slice A' (n + 1) c') (n + 1) (xs ++ news)) → Hid ((w0.alloc (.cells news.toArray e')).grownBy w' (ownA A)) → Hid (Newer (ownA A) (ownA A') (w0.heap.size + 1)) → K (a.put o.dst (.slice A' (n + 1) c')) w') :
  if Region.wanted o (yielded ops a.tmps) = true then Oper.wp P o a (w0.alloc (.cells news.toArray e')) K Q else E := by
 have hw : Region.wanted o (yielded ops a.tmps) = true := by simp [Region.wanted, hgd]
 rw [if_pos hw]
 obtain ⟨A', c', w', hr, k1, k2, k3⟩ := run_pushG (P := P) t o.type base e i z size bytes ht hi hz hsize hby hzs hsz hown news e' hl h1 hn hb hbase
 unfold Oper.wp execOp
 simp only [ho, resolve, invoke, builtin, Sem.run_bind, Sem.run_pure, Result.andThen_ok, List.map_toArray, List.map_cons, List.map_nil, hs, hx, hr]
 exact h A' c' w' k1 k2 k3
end
end
section
structure BelD (D : Nat → Prop) (w W : World) : Prop where
  os : W.os = w.os
  tape : W.tape = w.tape
  output : W.output = w.output
  size : w.heap.size ≤ W.heap.size
  block : ∀ k, k < w.heap.size → ¬ D k → W.heap[k]? = w.heap[k]?
section
variable {D D' : Nat → Prop} {a b c : World}
theorem BelD.refl (D : Nat → Prop) (w : World) : BelD D w w := ⟨rfl, rfl, rfl, Nat.le_refl _, fun _ _ _ => rfl⟩
theorem BelD.trans (h : BelD D a b) (k : BelD D b c) : BelD D a c :=
  ⟨k.os.trans h.os, k.tape.trans h.tape, k.output.trans h.output, Nat.le_trans h.size k.size, fun i hi hn => (k.block i (Nat.lt_of_lt_of_le hi h.size) hn).trans (h.block i hi hn)⟩
theorem BelD.of_below (h : Below a.heap.size a b) : BelD D a b := ⟨h.os, h.tape, h.output, h.size, fun k hk _ => h.block k hk⟩
theorem BelD.mono (h : BelD D a b) (hd : ∀ k, D k → D' k) : BelD D' a b := ⟨h.os, h.tape, h.output, h.size, fun k hk hn => h.block k hk fun e => hn (hd k e)⟩
theorem BelD.setCell (h : BelD D a b) {p : Nat} (hp : D p) (i : Nat) (v : Value) : BelD D a (b.setCell ⟨p, i, none⟩ v) :=
  ⟨h.os, h.tape, h.output, by simpa using h.size, fun k hk hn => (heap_setCell_other _ _ _ _ (fun e => hn (by have e : k = p := e; rw [e]; exact hp))).trans (h.block k hk hn)⟩
theorem BelD.setRow (h : BelD D a b) {p : Nat} (hp : D p) (cs : Array Value) : BelD D a (b.setRow p cs) :=
  ⟨h.os, h.tape, h.output, by simpa [World.setRow] using h.size, fun k hk hn => (setRow_other _ _ _ _ (fun e => hn (by rw [e]; exact hp))).trans (h.block k hk hn)⟩
theorem BelD.below {n : Nat} (h : BelD D a b) (hd : ∀ k, D k → n ≤ k) (hn : n ≤ a.heap.size) : Below n a b :=
  ⟨h.os, h.tape, h.output, h.size, fun k hk => h.block k (by omega) fun e => by have := hd k e; omega⟩
theorem BelD.grown {r : Option Nat} (h : BelD D a b) (hg : b.grownBy c r) (hr : ∀ k, r = some k → a.heap.size ≤ k ∨ D k) : BelD D a c :=
  ⟨hg.os.trans h.os, hg.tape.trans h.tape, hg.output.trans h.output, Nat.le_trans h.size hg.size, fun k hk hn => (hg.block k (Nat.lt_of_lt_of_le hk h.size) (fun e => by
    rcases hr k e.symm with h1 | h1
    · omega
    · exact hn h1)).trans (h.block k hk hn)⟩
end
structure DS (D : Nat → Prop) (n : Nat) (W0 W : World) (F : World → Prop) : Prop where
  dep : ∀ W', BelD D W W' → F W'
  bel : Below n W0 W
  hn : n ≤ W0.heap.size
  lt : ∀ k, D k → n ≤ k ∧ k < W.heap.size
section
variable {D : Nat → Prop} {n : Nat} {W0 W W' : World} {F G : World → Prop}
theorem DS.now (h : DS D n W0 W F) : F W := h.dep W (BelD.refl _ _)
theorem DS.start (hF : ∀ V, Below W.heap.size W V → F V) : DS (fun _ => False) W.heap.size W W F :=
  ⟨fun V h => hF V ⟨h.os, h.tape, h.output, h.size, fun k hk => h.block k hk id⟩, Below.refl _ _, Nat.le_refl _, fun _ h => h.elim⟩
theorem DS.nle (h : DS D n W0 W F) : n ≤ W.heap.size := Nat.le_trans h.hn h.bel.size
theorem DS.step (h : DS D n W0 W F) (hb : BelD D W W') : DS D n W0 W' F :=
  ⟨fun V hV => h.dep V (hb.trans hV), h.bel.trans (hb.below (fun k hk => (h.lt k hk).1) h.nle), h.hn, fun k hk => ⟨(h.lt k hk).1, Nat.lt_of_lt_of_le (h.lt k hk).2 hb.size⟩⟩
theorem DS.add (h : DS D n W0 W F) (hb : BelD D W W') (hG : ∀ V, BelD D W' V → G V) : DS D n W0 W' (fun V => G V ∧ F V) :=
  ⟨fun V hV => ⟨hG V hV, (h.step hb).dep V hV⟩, (h.step hb).bel, h.hn, (h.step hb).lt⟩
theorem DS.weaken (h : DS D n W0 W F) (hw : ∀ V, F V → G V) : DS D n W0 W G := ⟨fun V hV => hw V (h.dep V hV), h.bel, h.hn, h.lt⟩
theorem DS.st (h : DS D n W0 W F) : St W W F := ⟨fun V hV => h.dep V (BelD.of_below hV), Below.refl _ _⟩
theorem DS.join (h : DS D n W0 W F) (hb : Below W.heap.size W W') {db : Nat} (h1 : W.heap.size ≤ db) (h2 : db < W'.heap.size) : DS (fun k => D k ∨ k = db) n W0 W' F :=
  ⟨fun V hV => h.dep V ⟨hV.os.trans hb.os, hV.tape.trans hb.tape, hV.output.trans hb.output, Nat.le_trans hb.size hV.size, fun k hk hn => (hV.block k (Nat.lt_of_lt_of_le hk hb.size) (fun e => e.elim hn (by omega))).trans (hb.block k hk)⟩,
   h.bel.trans (hb.mono h.nle), h.hn, fun k hk => by
    rcases hk with hk | rfl
    · exact ⟨(h.lt k hk).1, Nat.lt_of_lt_of_le (h.lt k hk).2 hb.size⟩
    · exact ⟨Nat.le_trans h.nle h1, h2⟩⟩
theorem DS.new (h : DS D n W0 W F) (hb : Below W.heap.size W W') (hG : Dep (fun k => W.heap.size ≤ k) W' G) : DS D n W0 W' (fun V => G V ∧ F V) :=
  h.add (BelD.of_below hb) fun V hV => hG V fun k hp hl => hV.block k hl fun e => by have := (h.lt k e).2; omega
end
def drvC (cs : Array Value) (node : Int) (ha : Option Addr) (hc : Nat) (h : List Int) (st : Int) : List Value := cs.toList ++ [.int .i64 node, .slice ha h.length hc, .int .i64 st]
def DrvB (db : Nat) (cs : Array Value) (node : Int) (ha : Option Addr) (hc : Nat) (h : List Int) (st : Int) (W : World) : Prop := W.heap[db]? = some (.cells (drvC cs node ha hc h st).toArray 180 (0, 0))
section
variable {db : Nat} {cs : Array Value} {T : TabI} {node st : Int} {ha : Option Addr} {hc : Nat} {h : List Int} {W W' : World}
theorem drvC_hi (hs : cs.size = 259) (j : Nat) : (drvC cs node ha hc h st)[259 + j]? = [Value.int .i64 node, .slice ha h.length hc, .int .i64 st][j]? := by
  have e : cs.toList.length = 259 := by simp [hs]
  unfold drvC
  rw [List.getElem?_append_right (by omega), e, Nat.add_sub_cancel_left]
theorem drvC_lo {i : Nat} {v : Value} (hv : cs[i]? = some v) : (drvC cs node ha hc h st)[i]? = some v := by
  unfold drvC
  have hi := (Array.getElem?_eq_some_iff.1 hv).1
  rw [List.getElem?_append_left (by rw [Array.length_toList]; exact hi), Array.getElem?_toList]
  exact hv
theorem DrvB.cell (b : DrvB db cs node ha hc h st W) {i : Nat} {v : Value} (hv : (drvC cs node ha hc h st)[i]? = some v) : W.cell? ⟨db, i, none⟩ = some v := by
  have b' : W.heap[db]? = _ := b
  simp [World.cell?, b', hv]
theorem DrvB.fz (b : DrvB db cs node ha hc h st W) (i : Nat) : W.frozen? ⟨db, i, none⟩ = false := by
  have b' : W.heap[db]? = _ := b
  simp [World.frozen?, b']
theorem DrvB.lt (b : DrvB db cs node ha hc h st W) : db < W.heap.size := (Array.getElem?_eq_some_iff.1 b).1
theorem DrvB.cNode (b : DrvB db cs node ha hc h st W) (hs : cs.size = 259) : W.cell? ⟨db, 259, none⟩ = some (.int .i64 node) := b.cell (drvC_hi hs 0)
theorem DrvB.cHeld (b : DrvB db cs node ha hc h st W) (hs : cs.size = 259) : W.cell? ⟨db, 260, none⟩ = some (.slice ha h.length hc) := b.cell (drvC_hi hs 1)
theorem DrvB.cState (b : DrvB db cs node ha hc h st W) (hs : cs.size = 259) : W.cell? ⟨db, 261, none⟩ = some (.int .i64 st) := b.cell (drvC_hi hs 2)
theorem DrvB.keep (b : DrvB db cs node ha hc h st W) (hk : W'.heap[db]? = W.heap[db]?) : DrvB db cs node ha hc h st W' := hk.trans b
theorem drvC_set (hs : cs.size = 259) (j : Nat) (v : Value) : (drvC cs node ha hc h st).set (259 + j) v = cs.toList ++ [Value.int .i64 node, .slice ha h.length hc, .int .i64 st].set j v := by
  unfold drvC
  have e : cs.toList.length = 259 := by simp [hs]
  rw [List.set_append_right _ _ (by omega), e, Nat.add_sub_cancel_left]
theorem DrvB.setNode (b : DrvB db cs node ha hc h st W) (hs : cs.size = 259) (x : Int) : DrvB db cs x ha hc h st (W.setCell ⟨db, 259, none⟩ (.int .i64 x)) := by
  have h1 := heap_setCell_same W db 259 _ _ (.int .i64 x) b
  unfold DrvB
  rw [h1, List.setIfInBounds_toArray, show 259 = 259 + 0 from rfl, drvC_set hs]; rfl
theorem DrvB.setHeld (b : DrvB db cs node ha hc h st W) (hs : cs.size = 259) (A : Option Addr) (c : Nat) (l : List Int) : DrvB db cs node A c l st (W.setCell ⟨db, 260, none⟩ (.slice A l.length c)) := by
  have h1 := heap_setCell_same W db 260 _ _ (.slice A l.length c) b
  unfold DrvB
  rw [h1, List.setIfInBounds_toArray, show 260 = 259 + 1 from rfl, drvC_set hs]; rfl
theorem DrvB.setState (b : DrvB db cs node ha hc h st W) (hs : cs.size = 259) (x : Int) : DrvB db cs node ha hc h x (W.setCell ⟨db, 261, none⟩ (.int .i64 x)) := by
  have h1 := heap_setCell_same W db 261 _ _ (.int .i64 x) b
  unfold DrvB
  rw [h1, List.setIfInBounds_toArray, show 261 = 259 + 2 from rfl, drvC_set hs]; rfl
end
abbrev DrvS := Drv.S × Bool
def stI (s : DrvS) : Int := if s.1.rej then 2 else if s.2 then 1 else 0
def errI (s : DrvS) : Int := if s.1.rej then 7 else if s.2 then 8 else 0
noncomputable def wrS (T : TabL) (s : DrvS) (b : List Int) : DrvS × List Int × Int :=
  if errI s ≠ 0 then (s, [], errI s) else (((Drv.go (drvM T) s.1 b).1, false), (Drv.go (drvM T) s.1 b).2, if (Drv.go (drvM T) s.1 b).1.rej then 7 else 0)
def endL' (T : TabL) (k : Nat) : Int := match T.nodes[k]? with
  | some n => n.fin
  | none => -1
noncomputable def clS (T : TabL) (s : DrvS) : DrvS × List Int × Int :=
  if errI s ≠ 0 then (s, [], errI s) else if endL' T s.1.node < 0 then ((Drv.rejd, false), [], 7) else ((s.1, true), wrB (T.ends.getD (endL' T s.1.node).toNat []) s.1.held, 0)
end
theorem foldl_fill (l : List Value) : ∀ (n : Nat) (z : Array Value) (i : Nat), ((l.zipIdx n).foldl (fun (a : Array Value) (x : Value × Nat) => a.setIfInBounds (0 + x.2) x.1) z)[i]? = if n ≤ i ∧ i < n + l.length ∧ i < z.size then l[i - n]? else z[i]? := by
 induction l with
 | nil => intro n z i; simp; omega
 | cons v l ih =>
  intro n z i
  rw [List.zipIdx_cons, List.foldl_cons, ih]
  simp only [Array.size_setIfInBounds, List.length_cons]
  by_cases h1 : n + 1 ≤ i ∧ i < n + 1 + l.length ∧ i < z.size
  ·rw [if_pos h1, if_pos (by omega)]
   obtain ⟨j, rfl⟩ : ∃ j, i = n + 1 + j := ⟨i - (n + 1), by omega⟩
   rw [show n + 1 + j - (n + 1) = j by omega, show n + 1 + j - n = j + 1 by omega, List.getElem?_cons_succ]
  ·rw [if_neg h1]
   by_cases h2 : i = n
   ·subst h2
    by_cases h3 : i < z.size
    ·rw [if_pos (by omega), Nat.sub_self, List.getElem?_cons_zero, Nat.zero_add, Array.getElem?_setIfInBounds_self_of_lt h3]
    ·rw [if_neg (by omega), Array.getElem?_eq_none (by simp; omega), Array.getElem?_eq_none (by omega)]
   ·rw [if_neg (by omega), Array.getElem?_setIfInBounds_ne (by omega)]
def drvT : List Value := [.int .i64 0, .slice none 0 0, .int .i64 0]
def drvZ : Array Value := (List.replicate 256 (Value.int .u8 0) ++ [Value.slice none 0 0, .slice none 0 0, .slice none 0 0, .int .i64 0, .slice none 0 0, .int .i64 0]).toArray
def drvPl : Array (Nat × Nat) := #[(0, 259), (259, 1), (260, 1), (261, 1)]
theorem drv_built1 (v : Value) : Tryz.prog.built 180 [(0, v)] = Instr.fill (drvPl[·]?) drvZ [(0, v)] := by kernel_rfl
theorem drvZ_size : drvZ.size = 262 := by kernel_rfl
theorem fill_tab (cs : Array Value) (hs : cs.size = 259) (rest : List (Nat × Value)) : Instr.fill (drvPl[·]?) drvZ ((0, .agg cs) :: rest) = Instr.fill (drvPl[·]?) (cs.toList ++ drvT).toArray rest := by
 have e1 : (Value.agg cs).cells = cs := rfl
 have e2 : (cs.zipIdx.foldl (fun (a : Array Value) (x : Value × Nat) => a.setIfInBounds (0 + x.2) x.1) drvZ) = (cs.toList ++ drvT).toArray := by
  apply Array.ext_getElem?
  intro i
  have e3 : cs.zipIdx.foldl (fun (a : Array Value) (x : Value × Nat) => a.setIfInBounds (0 + x.2) x.1) drvZ = (cs.toList.zipIdx 0).foldl (fun (a : Array Value) (x : Value × Nat) => a.setIfInBounds (0 + x.2) x.1) drvZ := by
   rw [← Array.foldl_toList, Array.toList_zipIdx]
  have hl : cs.toList.length = 259 := by simp [hs]
  have er : (cs.toList ++ drvT).toArray[i]? = (cs.toList ++ drvT)[i]? := List.getElem?_toArray ..
  rw [e3, foldl_fill, drvZ_size, hl, er]
  by_cases h : i < 259
  ·rw [if_pos (by omega), List.getElem?_append_left (by omega), Nat.sub_zero]
  ·rw [if_neg (by omega), List.getElem?_append_right (by omega), hl]
   obtain ⟨j, rfl⟩ : ∃ j, i = 259 + j := ⟨i - 259, by omega⟩
   rw [Nat.add_sub_cancel_left]
   have h3 : drvZ[259 + j]? = drvT[j]? := by
    have e4 : drvZ = (List.replicate 256 (Value.int .u8 0) ++ ([Value.slice none 0 0, .slice none 0 0, .slice none 0 0] ++ drvT)).toArray := rfl
    rw [e4, List.getElem?_toArray, List.getElem?_append_right (by rw [List.length_replicate]; omega), List.length_replicate, show 259 + j - 256 = 3 + j by omega, List.getElem?_append_right (by simp)]
    simp
   exact h3
 show (if (Value.agg cs).cells.size ≠ 259 || 0 + (Value.agg cs).cells.size > drvZ.size then none else Instr.fill (drvPl[·]?) ((Value.agg cs).cells.zipIdx.foldl (fun a (c, j) => a.setIfInBounds (0 + j) c) drvZ) rest) = _
 rw [e1, hs, drvZ_size, if_neg (by decide), e2]
theorem built_drv (cs : Array Value) (hs : cs.size = 259) : Tryz.prog.built 180 [(0, .agg cs)] = some (drvC cs 0 none 0 [] 0).toArray := by
 rw [drv_built1, fill_tab cs hs]; rfl
section
def RetLD (w0 w : World) (r : List Sp) (F : World → Prop) (e : Ending) (w' : World) : Prop := ∃ A c, e = .returned (.slice A r.length c) ∧ Hid (Dep (fun k => w.heap.size ≤ k) w' (Lst A r)) ∧ Hid (St w0 w' (fun W => Lst A r W ∧ F W)) ∧ Hid (Below w.heap.size w w')
section
variable {w0 w : World} {F : World → Prop}
theorem retLD_own {r : List Sp} {e : Ending} {w' : World} (hK : Hid (St w0 w F)) (hp : Plain r) (ho : OwnList w w.heap.size r e w') : RetLD w0 w r F e w' := by
 obtain ⟨v, rfl, hown, hb⟩ := ho
 obtain ⟨A1, c1, rfl⟩ := own_shape hown
 have hd : Dep (fun k => w.heap.size ≤ k) w' (Lst A1 r) := fun V hV => hp.lst (Sl.of_own (own_keep hown fun g hg => by
  have h1 := hown.lt g (by rw [own_ownA]; exact hg)
  exact hV g h1.1 h1.2)) V (Below.refl _ _)
 exact ⟨A1, c1, rfl, Lh hd, Lh (hK.out.add hb hd.st), Lh hb⟩
theorem Meet_stD {A B : Option Addr} {a b r : List Sp} (hK : Hid (St w0 w F)) (ha : ∀ W, F W → Lst A a W) (hb : ∀ W, F W → Lst B b W) (c d : Nat) (hr : Hid (Rep r (fun x => Mem a x ∧ Mem b x))) : Calls Tryz.prog 160 #[.slice A a.length c, .slice B b.length d] w (RetLD w0 w r F) := by
 have h1 := ha w hK.out.now
 have h2 := hb w hK.out.now
 refine (Meet_any A B _ c _ d a b w h1.sp h2.sp h1.wd h2.wd (by have := h1.len; omega) (by have := h2.len; omega)).mono ?_
 rintro e w1 ⟨r', ho, hr', _⟩
 obtain rfl := Rep.unique hr' hr.out (fun _ => Iff.rfl)
 exact retLD_own hK hr'.1 ho
end
end
section
open Go.Shelf
theorem own_ty {W : World} {m sz n c : Nat} {et : TypeId} {A : Option Addr} {xs : List Value} (h : W.ownsRow m et sz (.slice A n c) n xs) {k : Nat} (hk : ownA A = some k) : m ≤ k ∧ k < W.heap.size ∧ ∃ cur, W.heap[k]? = some (.cells cur et (0, 0)) := by
 have hl := h.lt k (by rw [own_ownA]; exact hk)
 refine ⟨hl.1, hl.2, ?_⟩
 rcases h.2 with ⟨e, _⟩ | ⟨g, cap, cur, e, _, hh, _⟩
 ·injection e with e1; subst e1; cases hk
 ·injection e with e1; subst e1
  injection hk with hk; simp only at hk; subst hk
  exact ⟨cur, hh⟩
theorem own_apart {W : World} {m m' sz sz' n n' c c' : Nat} {et et' : TypeId} {A A' : Option Addr} {xs xs' : List Value} (h : W.ownsRow m et sz (.slice A n c) n xs) (h' : W.ownsRow m' et' sz' (.slice A' n' c') n' xs') (hne : et ≠ et') : ∀ k, ownA A = some k → ownA A' ≠ some k := fun k hk hk' => by
 obtain ⟨_, _, cur, e⟩ := own_ty h hk
 obtain ⟨_, _, cur', e'⟩ := own_ty h' hk'
 rw [e] at e'
 injection e' with e'; injection e' with _ e'
 exact hne e'
theorem fill_set {G : List (List Sp)} {i : Nat} {s : List Sp} (h : G[i]? = some s) : (G.take i ++ List.replicate (G.length - i) []).set i s = G.take (i + 1) ++ List.replicate (G.length - (i + 1)) [] := by
 have hl := (List.getElem?_eq_some_iff.1 h).1
 have h1 : (G.take i).length = i := by rw [List.length_take]; omega
 rw [List.set_append_right _ _ (by omega), h1, Nat.sub_self, take_snoc? h]
 obtain ⟨n, hn⟩ : ∃ n, G.length - i = n + 1 := ⟨G.length - i - 1, by omega⟩
 rw [hn, List.replicate_succ, List.set_cons_zero, show G.length - (i + 1) = n by omega]
 simp
theorem own_cap {W : World} {m sz n c : Nat} {et : TypeId} {A : Option Addr} {xs : List Value} (h : W.ownsRow m et sz (.slice A n c) n xs) : n ≤ c ∧ c ≤ 9223372036854775807 := by
 rcases h.2 with ⟨e, hn⟩ | ⟨g, cap, cur, e, _, _, hc, hm, _⟩
 ·injection e with _ e2 e3; omega
 ·injection e with _ e2 e3; subst e3; unfold maxLen at hm; omega
theorem St.here {w0 w : World} {F : World → Prop} (h : Hid (St w0 w F)) : Hid (St w w F) := Lh ⟨h.out.1, Below.refl _ _⟩
theorem St.join {w0 w w' : World} {F G : World → Prop} (h : Hid (St w0 w F)) (k : Hid (St w w' G)) : Hid (St w0 w' G) := Lh ⟨k.out.1, below_to h.out.2 k.out.2⟩
def MsB (mb n : Nat) (f : Nat → Int) (W : World) : Prop := W.heap[mb]? = some (.cells ((List.range (n + 1)).map fun j => Value.int .i64 (f j)).toArray 3 (0, 0))
section
variable {mb n : Nat} {f g : Nat → Int} {W W' : World}
theorem MsB.congr (h : MsB mb n f W) (hf : ∀ j, j ≤ n → f j = g j) : MsB mb n g W := by
 have e : ((List.range (n + 1)).map fun j => Value.int .i64 (f j)) = (List.range (n + 1)).map fun j => Value.int .i64 (g j) := List.map_congr_left fun j hj => by rw [hf j (by have := List.mem_range.1 hj; omega)]
 unfold MsB at h ⊢
 rw [← e]; exact h
theorem MsB.cell (h : MsB mb n f W) {j : Nat} (hj : j ≤ n) : W.cell? ⟨mb, j, none⟩ = some (.int .i64 (f j)) := by
 unfold MsB at h
 simp only [World.cell?, h]
 simp [List.getElem?_range (show j < n + 1 by omega)]
theorem MsB.frozen (h : MsB mb n f W) (j : Nat) : W.frozen? ⟨mb, j, none⟩ = false := by
 unfold MsB at h
 simp [World.frozen?, h]
theorem MsB.set (h : MsB mb n f W) {k : Nat} (v : Int) : MsB mb n (fun j => if j = k then v else f j) (W.setCell ⟨mb, k, none⟩ (.int .i64 v)) := by
 unfold MsB at h ⊢
 rw [heap_setCell_same W mb k _ _ _ h]
 congr 2
 apply Array.ext'
 simp only [List.setIfInBounds_toArray]
 apply List.ext_getElem?
 intro i
 by_cases hi : k = i
 ·subst hi
  by_cases hl : k < n + 1
  ·rw [List.getElem?_set_self (by simpa using hl)]; simp [List.getElem?_range hl]
  ·rw [List.getElem?_eq_none (by simp; omega), List.getElem?_eq_none (by simp; omega)]
 ·rw [List.getElem?_set_ne hi]
  simp only [List.getElem?_map]
  rcases hr : (List.range (n + 1))[i]? with _ | j
  ·rfl
  ·obtain ⟨hl, he⟩ := List.getElem?_eq_some_iff.1 hr
   rw [List.getElem_range] at he
   subst he
   simp only [Option.map_some]
   rw [if_neg (fun e => hi e.symm)]
theorem MsB.keep (h : MsB mb n f W) (hk : W'.heap[mb]? = W.heap[mb]?) : MsB mb n f W' := hk.trans h
theorem MsB.made (W : World) : MsB W.heap.size n (fun _ => 0) (W.alloc (.cells (madeCells #[.int .i64 0] (n + 1)) 3)) := by
 have h := heap_alloc_new W (.cells (madeCells #[.int .i64 0] (n + 1)) 3)
 unfold MsB
 rw [h]
 congr 2
 apply Array.ext'
 rw [toList_madeCells_one, List.map_const']
 simp
theorem MsB.ints (h : MsB mb n f W) (hn : n ≤ 1048576) (hf : ∀ j, j ≤ n → I64 (f j)) : IntsAt (some ⟨mb, 0, none⟩) ((List.range (n + 1)).map f) W := by
 refine ⟨⟨by rw [List.flatMap_map, ← List.map_eq_flatMap, List.length_map, List.length_map]; simp, fun _ => ⟨mb, 0, rfl, fun j u hu => ?_⟩⟩, fun x hx => ?_, by simp; omega⟩
 ·have e : ((List.range (n + 1)).map f).flatMap (fun x => [Value.int .i64 x]) = (List.range (n + 1)).map fun j => Value.int .i64 (f j) := by rw [List.flatMap_map, ← List.map_eq_flatMap]
  rw [e] at hu
  rw [Nat.zero_add]
  rcases hr : (List.range (n + 1))[j]? with _ | i
  ·rw [List.getElem?_map, hr] at hu; cases hu
  ·obtain ⟨hl, he⟩ := List.getElem?_eq_some_iff.1 hr
   rw [List.getElem_range] at he
   subst he
   rw [List.getElem?_map, hr] at hu
   injection hu with hu
   rw [← hu]
   exact h.cell (by rw [List.length_range] at hl; omega)
 ·obtain ⟨j, hj, rfl⟩ := List.mem_map.1 hx
  exact hf j (by have := List.mem_range.1 hj; omega)
end
theorem IntsAt.cell {pb po : Nat} {l : List Int} {V : World} (h : IntsAt (some ⟨pb, po, none⟩) l V) {k : Nat} {x : Int} (hx : l[k]? = some x) : V.cell? ⟨pb, po + k, none⟩ = some (.int .i64 x) := by
 obtain ⟨b, off, y, hA, hy, _, hc⟩ := h.at_ (j := k) (List.getElem?_eq_some_iff.1 hx).1
 injection hA with hA; injection hA with e1 e2
 subst e1; subst e2
 rw [hx] at hy; injection hy with hy; subst hy
 exact hc
theorem Items.cell {α : Type} {R : Option Addr → List α → World → Prop} {qb qo n : Nat} {L : List (Item α)} {V : World} (h : Items R (some ⟨qb, qo, none⟩) n L V) {k : Nat} {a : Option Addr} {c : Nat} {l : List α} (hx : L[k]? = some (a, c, l)) : V.cell? ⟨qb, qo + k, none⟩ = some (.slice a l.length c) ∧ R a l V := by
 obtain ⟨b, off, a', c', l', hA, hy, hc, hR⟩ := h.at_ (j := k) (by have := (List.getElem?_eq_some_iff.1 hx).1; rw [← h.len]; exact this)
 injection hA with hA; injection hA with e1 e2
 subst e1; subst e2
 rw [hx] at hy; injection hy with hy; injection hy with e3 e4; injection e4 with e4 e5
 subst e3; subst e4; subst e5
 exact ⟨hc, hR⟩
theorem infoIy : (Tryz.prog.info? 3).map (fun i => (i.zero, i.size, i.bytes)) = some (some (.int .i64 0), 1, 8) := by kernel_rfl
structure RwB (bb base : Nat) (B : List (Item Sp)) (V : World) : Prop where
 blk : V.heap[bb]? = some (.cells (icells B).toArray 103 (0, 0))
 sets : ∀ x ∈ B, Dep (fun k => base ≤ k ∧ k ≠ bb) V (Lst x.1 x.2.2)
section
variable {bb base : Nat} {B : List (Item Sp)} {V V2 : World}
theorem lst_nil (V : World) : Lst none [] V := ⟨Sl.nil_ _ _ _, fun p hp => (by cases hp), by simp⟩
theorem RwB.start (V : World) (n : Nat) : RwB V.heap.size V.heap.size (List.replicate n (none, 0, [])) (V.alloc (.cells (madeCells #[.slice none 0 0] n) 103)) := by
 refine ⟨?_, fun x hx => ?_⟩
 ·rw [heap_alloc_new V _]
  congr 2
  apply Array.ext'
  rw [toList_madeCells_one]
  simp [icells, ival]
 ·obtain ⟨_, rfl⟩ := List.mem_replicate.1 hx
  exact fun U _ => lst_nil U
theorem RwB.below (h : RwB bb base B V) (hb : Below V.heap.size V V2) : RwB bb base B V2 :=
 ⟨(hb.block bb (Array.getElem?_eq_some_iff.1 h.blk).1).trans h.blk, fun x hx => (h.sets x hx).step (fun k _ hl => hb.block k hl) hb.size (fun k hp _ => hp)⟩
theorem RwB.set (h : RwB bb base B V) (hbs : base ≤ V.heap.size) (hb : Below V.heap.size V V2) {i : Nat} {A : Option Addr} {c : Nat} {s : List Sp} (hs : Dep (fun k => V.heap.size ≤ k) V2 (Lst A s)) : RwB bb base (B.set i (A, c, s)) (V2.setCell ⟨bb, i, none⟩ (.slice A s.length c)) := by
 have hbl := (Array.getElem?_eq_some_iff.1 h.blk).1
 have hst : ∀ k, k ≠ bb → (V2.setCell ⟨bb, i, none⟩ (.slice A s.length c)).heap[k]? = V2.heap[k]? := fun k hk => heap_setCell_other _ _ _ _ hk
 refine ⟨?_, fun x hx => ?_⟩
 ·rw [heap_setCell_same V2 bb i _ _ _ ((hb.block bb hbl).trans h.blk)]
  congr 2
  apply Array.ext'
  simp only [List.setIfInBounds_toArray]
  exact icells_set B i (A, c, s)
 ·rcases List.mem_or_eq_of_mem_set hx with hx | rfl
  ·exact ((h.sets x hx).step (fun k _ hl => hb.block k hl) hb.size (fun k hp _ => hp)).step (fun k hp _ => hst k hp.2) (by simp) (fun k hp _ => hp)
  ·exact hs.step (fun k hp _ => hst k (by omega)) (by simp) (fun k hp _ => by omega)
theorem RwB.cell (h : RwB bb base B V) {i : Nat} (hi : i < B.length) : ∃ v, V.cell? ⟨bb, i, none⟩ = some v ∧ V.frozen? ⟨bb, i, none⟩ = false := by
 have hb := h.blk
 refine ⟨ival B[i], ?_, by simp [World.frozen?, hb]⟩
 simp [World.cell?, hb, icells, hi]
theorem RwB.row (h : RwB bb base B V) (hbb : base ≤ bb) (hl : B.length ≤ 1048576) : Dep (fun k => base ≤ k) V (LLx (some ⟨bb, 0, none⟩) B) := fun U hU => by
 have hbl := (Array.getElem?_eq_some_iff.1 h.blk).1
 have hb := (hU bb hbb hbl).trans h.blk
 refine ⟨⟨⟨by rw [icells_length, Nat.mul_one], fun _ => ⟨bb, 0, rfl, fun j u hu => ?_⟩⟩, fun x hx => h.sets x hx U fun k hp hk => hU k hp.1 hk⟩, by omega⟩
 rw [Nat.zero_add]
 simp [World.cell?, hb, hu]
end
theorem infoHdy : (Tryz.prog.info? 103).map (fun i => (i.zero, i.size, i.bytes)) = some (some (.slice none 0 0), 1, 24) := by kernel_rfl
end
def RetOwn (w : World) (E : TypeId) (size n : Nat) (cs : List Value) (e : Ending) (w' : World) : Prop := ∃ A' c', e = .returned (.slice A' n c') ∧ Hid (w'.ownsRow w.heap.size E size (.slice A' n c') n cs) ∧ Hid (Below w.heap.size w w')
theorem infoClPart : (Tryz.prog.info? 70).map (fun i => (i.zero, i.size, i.bytes)) = some (some (.agg #[.int .i64 0, .int .i64 0, .int .i64 0, .int .i64 0]), 4, 32) := by kernel_rfl
theorem ClonePart (w : World) {A : Option Addr} {n : Nat} {cs : List Value} (hs : Sl w 4 A n cs) (h1 : ∀ u ∈ cs, u.oneCell' = true) (hn : n ≤ 1048576) (c : Nat) :
  Calls Tryz.prog 145 #[.slice A n c] w (RetOwn w 70 4 n cs) := by
 rcases A with _ | ⟨b, o, q⟩
 ·obtain rfl : n = 0 := by
   rcases Nat.eq_zero_or_pos n with h | h
   ·exact h
   ·obtain ⟨b, off, e, _⟩ := hs.2 h
    cases e
  have hcs : cs = [] := List.eq_nil_of_length_eq_zero (by have := hs.1; omega)
  subst hcs
  have q22 := fun (w : World) (a : Option Addr) (n c n' c' : Nat) => Lib.run_eql_slice_nil (P := Tryz.prog) w 66 70 a n c n' c' Tryz.underlying66
  go_enter Tryz.func145, Tryz.ntmps145
  go_wp2_with fail
  go_ret
  exact ⟨_, _, rfl, Lh (World.ownsRow_nil _ _ _ _), Lh (Below.refl _ _)⟩
 ·have q22 := fun (w : World) (a : Option Addr) (n c n' c' : Nat) => Lib.run_eql_slice_nil (P := Tryz.prog) w 66 70 a n c n' c' Tryz.underlying66
  obtain ⟨i0, hi, hz0, hz1, hz2⟩ := info_parts infoClPart
  have HSL : Hid (Sl (w.alloc (.cells #[] 70)) 4 (some ⟨b, o, q⟩) n cs) := Lh (hs.alloc _)
  have HON := Lh (World.ownsRow_made w #[] 0 (e := 70) (size := 4) (Nat.le_refl w.heap.size) (Nat.zero_le _) (by simp))
  have H1 := Lh h1
  clear hs h1
  go_enter Tryz.func145, Tryz.ntmps145
  go_wp2_with (at_builtin; go_must (refine wpList_append_sl _ rfl _ _ 66 rfl w.heap.size 70 i0 _ 4 32 Tryz.underlying66 hi hz0 hz1 hz2 rfl (by decide) HON.out rfl HSL.out rfl H1.out (by unfold maxLen; omega) (by omega) (by simp) ?_); intro v' w2 hown2 hg2)
  go_ret
  obtain ⟨A4, c4, rfl⟩ := own_shape hown2
  refine ⟨A4, c4, by first | rfl | simp, Lh (by simpa using hown2), Lh (((Below.refl _ w).alloc (Nat.le_refl _) _).grown hg2 (by simp) (fun k hk => by simp [Value.ownBlock] at hk; omega))⟩
theorem infoClTerm : (Tryz.prog.info? 68).map (fun i => (i.zero, i.size, i.bytes)) = some (some (.agg #[.int .i64 0, .int .i64 0, .int .i64 0, .int .i64 0, .int .i64 0, .slice none 0 0]), 6, 64) := by kernel_rfl
theorem CloneTerm (w : World) {A : Option Addr} {n : Nat} {cs : List Value} (hs : Sl w 6 A n cs) (h1 : ∀ u ∈ cs, u.oneCell' = true) (hn : n ≤ 1048576) (c : Nat) :
  Calls Tryz.prog 144 #[.slice A n c] w (RetOwn w 68 6 n cs) := by
 rcases A with _ | ⟨b, o, q⟩
 ·obtain rfl : n = 0 := by
   rcases Nat.eq_zero_or_pos n with h | h
   ·exact h
   ·obtain ⟨b, off, e, _⟩ := hs.2 h
    cases e
  have hcs : cs = [] := List.eq_nil_of_length_eq_zero (by have := hs.1; omega)
  subst hcs
  have q22 := fun (w : World) (a : Option Addr) (n c n' c' : Nat) => Lib.run_eql_slice_nil (P := Tryz.prog) w 57 68 a n c n' c' Tryz.underlying57
  go_enter Tryz.func144, Tryz.ntmps144
  go_wp2_with fail
  go_ret
  exact ⟨_, _, rfl, Lh (World.ownsRow_nil _ _ _ _), Lh (Below.refl _ _)⟩
 ·have q22 := fun (w : World) (a : Option Addr) (n c n' c' : Nat) => Lib.run_eql_slice_nil (P := Tryz.prog) w 57 68 a n c n' c' Tryz.underlying57
  obtain ⟨i0, hi, hz0, hz1, hz2⟩ := info_parts infoClTerm
  have HSL : Hid (Sl (w.alloc (.cells #[] 68)) 6 (some ⟨b, o, q⟩) n cs) := Lh (hs.alloc _)
  have HON := Lh (World.ownsRow_made w #[] 0 (e := 68) (size := 6) (Nat.le_refl w.heap.size) (Nat.zero_le _) (by simp))
  have H1 := Lh h1
  clear hs h1
  go_enter Tryz.func144, Tryz.ntmps144
  go_wp2_with (at_builtin; go_must (refine wpList_append_sl _ rfl _ _ 57 rfl w.heap.size 68 i0 _ 6 64 Tryz.underlying57 hi hz0 hz1 hz2 rfl (by decide) HON.out rfl HSL.out rfl H1.out (by unfold maxLen; omega) (by omega) (by simp) ?_); intro v' w2 hown2 hg2)
  go_ret
  obtain ⟨A4, c4, rfl⟩ := own_shape hown2
  refine ⟨A4, c4, by first | rfl | simp, Lh (by simpa using hown2), Lh (((Below.refl _ w).alloc (Nat.le_refl _) _).grown hg2 (by simp) (fun k hk => by simp [Value.ownBlock] at hk; omega))⟩
theorem infoClNode : (Tryz.prog.info? 64).map (fun i => (i.zero, i.size, i.bytes)) = some (some (.agg #[.int .i64 0, .slice none 0 0, .int .i64 0]), 3, 40) := by kernel_rfl
theorem CloneNode (w : World) {A : Option Addr} {n : Nat} {cs : List Value} (hs : Sl w 3 A n cs) (h1 : ∀ u ∈ cs, u.oneCell' = true) (hn : n ≤ 1048576) (c : Nat) :
  Calls Tryz.prog 93 #[.slice A n c] w (RetOwn w 64 3 n cs) := by
 rcases A with _ | ⟨b, o, q⟩
 ·obtain rfl : n = 0 := by
   rcases Nat.eq_zero_or_pos n with h | h
   ·exact h
   ·obtain ⟨b, off, e, _⟩ := hs.2 h
    cases e
  have hcs : cs = [] := List.eq_nil_of_length_eq_zero (by have := hs.1; omega)
  subst hcs
  have q22 := fun (w : World) (a : Option Addr) (n c n' c' : Nat) => Lib.run_eql_slice_nil (P := Tryz.prog) w 45 64 a n c n' c' Tryz.underlying45
  go_enter Tryz.func93, Tryz.ntmps93
  go_wp2_with fail
  go_ret
  exact ⟨_, _, rfl, Lh (World.ownsRow_nil _ _ _ _), Lh (Below.refl _ _)⟩
 ·have q22 := fun (w : World) (a : Option Addr) (n c n' c' : Nat) => Lib.run_eql_slice_nil (P := Tryz.prog) w 45 64 a n c n' c' Tryz.underlying45
  obtain ⟨i0, hi, hz0, hz1, hz2⟩ := info_parts infoClNode
  have HSL : Hid (Sl (w.alloc (.cells #[] 64)) 3 (some ⟨b, o, q⟩) n cs) := Lh (hs.alloc _)
  have HON := Lh (World.ownsRow_made w #[] 0 (e := 64) (size := 3) (Nat.le_refl w.heap.size) (Nat.zero_le _) (by simp))
  have H1 := Lh h1
  clear hs h1
  go_enter Tryz.func93, Tryz.ntmps93
  go_wp2_with (at_builtin; go_must (refine wpList_append_sl _ rfl _ _ 45 rfl w.heap.size 64 i0 _ 3 40 Tryz.underlying45 hi hz0 hz1 hz2 rfl (by decide) HON.out rfl HSL.out rfl H1.out (by unfold maxLen; omega) (by omega) (by simp) ?_); intro v' w2 hown2 hg2)
  go_ret
  obtain ⟨A4, c4, rfl⟩ := own_shape hown2
  refine ⟨A4, c4, by first | rfl | simp, Lh (by simpa using hown2), Lh (((Below.refl _ w).alloc (Nat.le_refl _) _).grown hg2 (by simp) (fun k hk => by simp [Value.ownBlock] at hk; omega))⟩
theorem infoClAct : (Tryz.prog.info? 59).map (fun i => (i.zero, i.size, i.bytes)) = some (some (.agg #[.int .i64 0, .int .i64 0, .slice none 0 0]), 3, 40) := by kernel_rfl
theorem CloneAct (w : World) {A : Option Addr} {n : Nat} {cs : List Value} (hs : Sl w 3 A n cs) (h1 : ∀ u ∈ cs, u.oneCell' = true) (hn : n ≤ 1048576) (c : Nat) :
  Calls Tryz.prog 94 #[.slice A n c] w (RetOwn w 59 3 n cs) := by
 rcases A with _ | ⟨b, o, q⟩
 ·obtain rfl : n = 0 := by
   rcases Nat.eq_zero_or_pos n with h | h
   ·exact h
   ·obtain ⟨b, off, e, _⟩ := hs.2 h
    cases e
  have hcs : cs = [] := List.eq_nil_of_length_eq_zero (by have := hs.1; omega)
  subst hcs
  have q22 := fun (w : World) (a : Option Addr) (n c n' c' : Nat) => Lib.run_eql_slice_nil (P := Tryz.prog) w 46 59 a n c n' c' Tryz.underlying46
  go_enter Tryz.func94, Tryz.ntmps94
  go_wp2_with fail
  go_ret
  exact ⟨_, _, rfl, Lh (World.ownsRow_nil _ _ _ _), Lh (Below.refl _ _)⟩
 ·have q22 := fun (w : World) (a : Option Addr) (n c n' c' : Nat) => Lib.run_eql_slice_nil (P := Tryz.prog) w 46 59 a n c n' c' Tryz.underlying46
  obtain ⟨i0, hi, hz0, hz1, hz2⟩ := info_parts infoClAct
  have HSL : Hid (Sl (w.alloc (.cells #[] 59)) 3 (some ⟨b, o, q⟩) n cs) := Lh (hs.alloc _)
  have HON := Lh (World.ownsRow_made w #[] 0 (e := 59) (size := 3) (Nat.le_refl w.heap.size) (Nat.zero_le _) (by simp))
  have H1 := Lh h1
  clear hs h1
  go_enter Tryz.func94, Tryz.ntmps94
  go_wp2_with (at_builtin; go_must (refine wpList_append_sl _ rfl _ _ 46 rfl w.heap.size 59 i0 _ 3 40 Tryz.underlying46 hi hz0 hz1 hz2 rfl (by decide) HON.out rfl HSL.out rfl H1.out (by unfold maxLen; omega) (by omega) (by simp) ?_); intro v' w2 hown2 hg2)
  go_ret
  obtain ⟨A4, c4, rfl⟩ := own_shape hown2
  refine ⟨A4, c4, by first | rfl | simp, Lh (by simpa using hown2), Lh (((Below.refl _ w).alloc (Nat.le_refl _) _).grown hg2 (by simp) (fun k hk => by simp [Value.ownBlock] at hk; omega))⟩
theorem infoClOut : (Tryz.prog.info? 57).map (fun i => (i.zero, i.size, i.bytes)) = some (some (.slice none 0 0), 1, 24) := by kernel_rfl
theorem CloneOut (w : World) {A : Option Addr} {n : Nat} {cs : List Value} (hs : Sl w 1 A n cs) (h1 : ∀ u ∈ cs, u.oneCell' = true) (hn : n ≤ 1048576) (c : Nat) :
  Calls Tryz.prog 95 #[.slice A n c] w (RetOwn w 57 1 n cs) := by
 rcases A with _ | ⟨b, o, q⟩
 ·obtain rfl : n = 0 := by
   rcases Nat.eq_zero_or_pos n with h | h
   ·exact h
   ·obtain ⟨b, off, e, _⟩ := hs.2 h
    cases e
  have hcs : cs = [] := List.eq_nil_of_length_eq_zero (by have := hs.1; omega)
  subst hcs
  have q22 := fun (w : World) (a : Option Addr) (n c n' c' : Nat) => Lib.run_eql_slice_nil (P := Tryz.prog) w 47 57 a n c n' c' Tryz.underlying47
  go_enter Tryz.func95, Tryz.ntmps95
  go_wp2_with fail
  go_ret
  exact ⟨_, _, rfl, Lh (World.ownsRow_nil _ _ _ _), Lh (Below.refl _ _)⟩
 ·have q22 := fun (w : World) (a : Option Addr) (n c n' c' : Nat) => Lib.run_eql_slice_nil (P := Tryz.prog) w 47 57 a n c n' c' Tryz.underlying47
  obtain ⟨i0, hi, hz0, hz1, hz2⟩ := info_parts infoClOut
  have HSL : Hid (Sl (w.alloc (.cells #[] 57)) 1 (some ⟨b, o, q⟩) n cs) := Lh (hs.alloc _)
  have HON := Lh (World.ownsRow_made w #[] 0 (e := 57) (size := 1) (Nat.le_refl w.heap.size) (Nat.zero_le _) (by simp))
  have H1 := Lh h1
  clear hs h1
  go_enter Tryz.func95, Tryz.ntmps95
  go_wp2_with (at_builtin; go_must (refine wpList_append_sl _ rfl _ _ 47 rfl w.heap.size 57 i0 _ 1 24 Tryz.underlying47 hi hz0 hz1 hz2 rfl (by decide) HON.out rfl HSL.out rfl H1.out (by unfold maxLen; omega) (by omega) (by simp) ?_); intro v' w2 hown2 hg2)
  go_ret
  obtain ⟨A4, c4, rfl⟩ := own_shape hown2
  refine ⟨A4, c4, by first | rfl | simp, Lh (by simpa using hown2), Lh (((Below.refl _ w).alloc (Nat.le_refl _) _).grown hg2 (by simp) (fun k hk => by simp [Value.ownBlock] at hk; omega))⟩
theorem infoClInt : (Tryz.prog.info? 3).map (fun i => (i.zero, i.size, i.bytes)) = some (some (.int .i64 0), 1, 8) := by kernel_rfl
theorem CloneInt (w : World) {A : Option Addr} {n : Nat} {cs : List Value} (hs : Sl w 1 A n cs) (h1 : ∀ u ∈ cs, u.oneCell' = true) (hn : n ≤ 1048576) (c : Nat) :
  Calls Tryz.prog 96 #[.slice A n c] w (RetOwn w 3 1 n cs) := by
 rcases A with _ | ⟨b, o, q⟩
 ·obtain rfl : n = 0 := by
   rcases Nat.eq_zero_or_pos n with h | h
   ·exact h
   ·obtain ⟨b, off, e, _⟩ := hs.2 h
    cases e
  have hcs : cs = [] := List.eq_nil_of_length_eq_zero (by have := hs.1; omega)
  subst hcs
  have q22 := fun (w : World) (a : Option Addr) (n c n' c' : Nat) => Lib.run_eql_slice_nil (P := Tryz.prog) w 62 3 a n c n' c' Tryz.underlying62
  go_enter Tryz.func96, Tryz.ntmps96
  go_wp2_with fail
  go_ret
  exact ⟨_, _, rfl, Lh (World.ownsRow_nil _ _ _ _), Lh (Below.refl _ _)⟩
 ·have q22 := fun (w : World) (a : Option Addr) (n c n' c' : Nat) => Lib.run_eql_slice_nil (P := Tryz.prog) w 62 3 a n c n' c' Tryz.underlying62
  obtain ⟨i0, hi, hz0, hz1, hz2⟩ := info_parts infoClInt
  have HSL : Hid (Sl (w.alloc (.cells #[] 3)) 1 (some ⟨b, o, q⟩) n cs) := Lh (hs.alloc _)
  have HON := Lh (World.ownsRow_made w #[] 0 (e := 3) (size := 1) (Nat.le_refl w.heap.size) (Nat.zero_le _) (by simp))
  have H1 := Lh h1
  clear hs h1
  go_enter Tryz.func96, Tryz.ntmps96
  go_wp2_with (at_builtin; go_must (refine wpList_append_sl _ rfl _ _ 62 rfl w.heap.size 3 i0 _ 1 8 Tryz.underlying62 hi hz0 hz1 hz2 rfl (by decide) HON.out rfl HSL.out rfl H1.out (by unfold maxLen; omega) (by omega) (by simp) ?_); intro v' w2 hown2 hg2)
  go_ret
  obtain ⟨A4, c4, rfl⟩ := own_shape hown2
  refine ⟨A4, c4, by first | rfl | simp, Lh (by simpa using hown2), Lh (((Below.refl _ w).alloc (Nat.le_refl _) _).grown hg2 (by simp) (fun k hk => by simp [Value.ownBlock] at hk; omega))⟩
theorem infoClByte : (Tryz.prog.info? 5).map (fun i => (i.zero, i.size, i.bytes)) = some (some (.int .u8 0), 1, 1) := by kernel_rfl
theorem CloneByte (w : World) {A : Option Addr} {n : Nat} {cs : List Value} (hs : Sl w 1 A n cs) (h1 : ∀ u ∈ cs, u.oneCell' = true) (hn : n ≤ 1048576) (c : Nat) :
  Calls Tryz.prog 102 #[.slice A n c] w (RetOwn w 5 1 n cs) := by
 rcases A with _ | ⟨b, o, q⟩
 ·obtain rfl : n = 0 := by
   rcases Nat.eq_zero_or_pos n with h | h
   ·exact h
   ·obtain ⟨b, off, e, _⟩ := hs.2 h
    cases e
  have hcs : cs = [] := List.eq_nil_of_length_eq_zero (by have := hs.1; omega)
  subst hcs
  have q22 := fun (w : World) (a : Option Addr) (n c n' c' : Nat) => Lib.run_eql_slice_nil (P := Tryz.prog) w 79 5 a n c n' c' Tryz.underlying79
  go_enter Tryz.func102, Tryz.ntmps102
  go_wp2_with fail
  go_ret
  exact ⟨_, _, rfl, Lh (World.ownsRow_nil _ _ _ _), Lh (Below.refl _ _)⟩
 ·have q22 := fun (w : World) (a : Option Addr) (n c n' c' : Nat) => Lib.run_eql_slice_nil (P := Tryz.prog) w 79 5 a n c n' c' Tryz.underlying79
  obtain ⟨i0, hi, hz0, hz1, hz2⟩ := info_parts infoClByte
  have HSL : Hid (Sl (w.alloc (.cells #[] 5)) 1 (some ⟨b, o, q⟩) n cs) := Lh (hs.alloc _)
  have HON := Lh (World.ownsRow_made w #[] 0 (e := 5) (size := 1) (Nat.le_refl w.heap.size) (Nat.zero_le _) (by simp))
  have H1 := Lh h1
  clear hs h1
  go_enter Tryz.func102, Tryz.ntmps102
  go_wp2_with (at_builtin; go_must (refine wpList_append_sl _ rfl _ _ 79 rfl w.heap.size 5 i0 _ 1 1 Tryz.underlying79 hi hz0 hz1 hz2 rfl (by decide) HON.out rfl HSL.out rfl H1.out (by unfold maxLen; omega) (by omega) (by simp) ?_); intro v' w2 hown2 hg2)
  go_ret
  obtain ⟨A4, c4, rfl⟩ := own_shape hown2
  refine ⟨A4, c4, by first | rfl | simp, Lh (by simpa using hown2), Lh (((Below.refl _ w).alloc (Nat.le_refl _) _).grown hg2 (by simp) (fun k hk => by simp [Value.ownBlock] at hk; omega))⟩
section
theorem flat_set {α : Type} {f : α → List Value} {size : Nat} (hf : ∀ x, (f x).length = size) {x' : α} {i : Nat} (hi : i < size) {v : Value} : ∀ {L : List α} {j : Nat} {x : α}, L[j]? = some x → f x' = (f x).set i v → (L.flatMap f).set (j * size + i) v = (L.set j x').flatMap f := by
 intro L
 induction L with
 | nil => intro j x hx; cases hx
 | cons y L ih =>
  intro j x hx h
  cases j with
  | zero =>
   injection hx with hx; subst hx
   rw [List.flatMap_cons, List.set_cons_zero, List.flatMap_cons, Nat.zero_mul, Nat.zero_add, List.set_append_left _ _ (by rw [hf]; exact hi), h]
  | succ j =>
   rw [List.flatMap_cons, List.set_cons_succ, List.flatMap_cons, List.set_append_right _ _ (by rw [hf, Nat.succ_mul]; omega), hf]
   rw [← ih hx h]
   congr 2
   rw [Nat.succ_mul]; omega
theorem own_some' {W : World} {m sz n c : Nat} {et : TypeId} {A : Option Addr} {xs : List Value} (h : W.ownsRow m et sz (.slice A n c) n xs) (hn : 0 < n) : ∃ b, A = some ⟨b, 0, none⟩ := by
 rcases h.2 with ⟨e, _⟩ | ⟨g, cap, cur, e, _⟩
 ·injection e with e1 e2; omega
 ·injection e with e1 e2; exact ⟨g, e1⟩
theorem ownsRow_setM {W : World} {m b c size : Nat} {et : TypeId} {xs : List Value} {n : Nat} (h : W.ownsRow m et size (.slice (some ⟨b, 0, none⟩) n c) n xs) (k : Nat) (v : Value) : (W.setCell ⟨b, k, none⟩ v).ownsRow m et size (.slice (some ⟨b, 0, none⟩) n c) n (xs.set k v) := (h.stored k v).1
structure Fill {α β : Type} (base lo : Nat) (E : TypeId) (size : Nat) (f : α → List Value) (R : α → World → Prop) (L : α → β) (A : Option Addr) (c : Nat) (l0 l : List α) (k : Nat) (W wr : World) : Prop where
 own : wr.ownsRow base E size (.slice A l.length c) l.length (l.flatMap f)
 len : l.length = l0.length
 rest : ∀ j, k ≤ j → l[j]? = l0[j]?
 done : ∀ j x, j < k → l[j]? = some x → Dep (fun i => lo ≤ i ∧ some i ≠ ownA A) wr (R x)
 bel : Below base W wr
 same : ∀ j : Nat, (l[j]?).map L = (l0[j]?).map L
section
variable {α β : Type} {base lo : Nat} {E : TypeId} {size : Nat} {f : α → List Value} {R : α → World → Prop} {L : α → β} {A : Option Addr} {c : Nat} {l0 l : List α} {k : Nat} {W wr w2 : World}
theorem Fill.start (h : wr.ownsRow base E size (.slice A l.length c) l.length (l.flatMap f)) (hb : Below base W wr) : Fill base lo E size f R L A c l l 0 W wr :=
 ⟨h, rfl, fun _ _ => rfl, fun j x hj => by omega, hb, fun _ => rfl⟩
theorem Fill.at_ (h : Fill base lo E size f R L A c l0 l k W wr) (hf : ∀ x, (f x).length = size) {x : α} (hx : l0[k]? = some x) : ∃ b, A = some ⟨b, 0, none⟩ ∧ l[k]? = some x ∧ (∀ i v, (f x)[i]? = some v → wr.cell? ⟨b, k * size + i, none⟩ = some v) ∧ ∀ j, wr.frozen? ⟨b, j, none⟩ = false := by
 have hx' : l[k]? = some x := (h.rest k (Nat.le_refl _)).trans hx
 have hk := (List.getElem?_eq_some_iff.1 hx').1
 obtain ⟨b, rfl⟩ := own_some' h.own (by omega)
 refine ⟨b, rfl, hx', fun i v hv => ?_, fun j => h.own.frozenAt j⟩
 have hi : i < size := by rw [← hf x]; exact (List.getElem?_eq_some_iff.1 hv).1
 have h1 : k * size + i < l.length * size := by
  have : (k + 1) * size ≤ l.length * size := Nat.mul_le_mul_right _ hk
  rw [Nat.succ_mul] at this; omega
 rw [h.own.cellAt _ h1]
 exact flatMap_at hf hx' hv
theorem Fill.step (h : Fill base lo E size f R L A c l0 l k W wr) (hf : ∀ x, (f x).length = size) {x x' : α} (hx : l[k]? = some x) {b i : Nat} {v : Value} (hA : A = some ⟨b, 0, none⟩) (hi : i < size) (hv : f x' = (f x).set i v) (hL : L x' = L x)
  (hb : Below wr.heap.size wr w2) (hR : Dep (fun i => wr.heap.size ≤ i) w2 (R x')) (hW : base ≤ W.heap.size) (hlo : lo ≤ wr.heap.size) :
  Fill base lo E size f R L A c l0 (l.set k x') (k + 1) W (w2.setCell ⟨b, k * size + i, none⟩ v) := by
 have hk := (List.getElem?_eq_some_iff.1 hx).1
 have hbw : b < wr.heap.size := by
  have : ownA A = some b := by rw [hA]; rfl
  exact (own_ty h.own this).2.1
 have hbb : base ≤ b := by
  have : ownA A = some b := by rw [hA]; rfl
  exact (own_ty h.own this).1
 have hst : ∀ j, j ≠ b → (w2.setCell ⟨b, k * size + i, none⟩ v).heap[j]? = w2.heap[j]? := fun j hj => heap_setCell_other _ _ _ _ hj
 have hbs := h.bel.size
 refine ⟨?_, by rw [List.length_set, h.len], fun j hj => ?_, fun j y hj hy => ?_, ?_, fun j => ?_⟩
 ·have h2 := own_keep h.own (w' := w2) fun j hj => hb.block j (own_ty h.own hj).2.1
  subst hA
  have h3 := ownsRow_setM h2 (k * size + i) v
  rw [flat_set hf hi hx hv] at h3
  rw [List.length_set]; exact h3
 ·rw [List.getElem?_set_ne (by omega)]; exact h.rest j (by omega)
 ·by_cases e : j = k
  ·subst e
   rw [List.getElem?_set_self hk] at hy
   injection hy with hy; subst hy
   refine hR.step (fun q hq hl => hst q (by omega)) (by simp) (fun q hq hl => ⟨by omega, fun e => ?_⟩)
   rw [hA] at e
   injection e with e
   have e : q = b := e
   omega
  ·rw [List.getElem?_set_ne (fun e2 => e e2.symm)] at hy
   refine (h.done j y (by omega) hy).step (fun q hq hl => (hst q (fun e2 => hq.2 (by rw [hA, e2]; rfl))).trans (hb.block q hl)) (by simpa using hb.size) (fun q hq _ => hq)
 ·exact (h.bel.trans (hb.mono (Nat.le_trans hW hbs))).setCell (p := ⟨b, k * size + i, none⟩) hbb v
 ·by_cases e : j = k
  ·subst e
   rw [List.getElem?_set_self hk, ← h.same j, hx]
   show some (L x') = some (L x)
   rw [hL]
  ·rw [List.getElem?_set_ne (fun e2 => e e2.symm)]; exact h.same j
theorem Fill.fin (h : Fill base lo E size f R L A c l0 l k W wr) (hk : l0.length ≤ k) (hl : l0.length ≤ 9223372036854775807) : Dep (fun i => lo ≤ i ∨ ownA A = some i) wr (RowsAt size f R A l) ∧ l.map L = l0.map L := by
 refine ⟨fun V hV => ⟨Sl.of_own (own_keep h.own fun j hj => hV j (.inr hj) (own_ty h.own hj).2.1), fun x hx => ?_, by rw [h.len]; exact hl⟩, ?_⟩
 ·obtain ⟨j, hj⟩ := List.getElem?_of_mem hx
  exact h.done j x (by have := (List.getElem?_eq_some_iff.1 hj).1; have := h.len; omega) hj V fun q hq hl => hV q (.inl hq.1) hl
 ·apply List.ext_getElem?
  intro j
  rw [List.getElem?_map, List.getElem?_map]; exact h.same j
theorem Fill.keep (h : Fill base lo E size f R L A c l0 l k W wr) (hb : Below base wr w2) (hk : ∀ i, i < wr.heap.size → (lo ≤ i ∨ ownA A = some i) → w2.heap[i]? = wr.heap[i]?) : Fill base lo E size f R L A c l0 l k W w2 :=
 ⟨own_keep h.own fun j hj => hk j (own_ty h.own hj).2.1 (.inr hj), h.len, h.rest, fun j x hj hx => (h.done j x hj hx).step (fun q hq hl => hk q hl (.inl hq.1)) hb.size (fun _ hq _ => hq), h.bel.trans hb, h.same⟩
theorem own_mono {W : World} {m m' sz n c : Nat} {et : TypeId} {A : Option Addr} {xs : List Value} (h : W.ownsRow m et sz (.slice A n c) n xs) (hm : m' ≤ m) : W.ownsRow m' et sz (.slice A n c) n xs :=
 ⟨h.1, h.2.imp id fun ⟨g, cap, cur, e, hg, hh⟩ => ⟨g, cap, cur, e, Nat.le_trans hm hg, hh⟩⟩
end
end
theorem flat_one {α : Type} {f : α → List Value} (hf : ∀ x, ∀ u ∈ f x, u.oneCell' = true) (l : List α) : ∀ u ∈ l.flatMap f, u.oneCell' = true := fun u hu => by
 obtain ⟨x, _, hx⟩ := List.mem_flatMap.1 hu
 exact hf x u hx
theorem partC_one (p : PartL) : ∀ u ∈ partC p, u.oneCell' = true := by simp [partC, Value.oneCell']
theorem termC_one (p : TermI) : ∀ u ∈ termC p, u.oneCell' = true := by simp [termC, Value.oneCell']
theorem infoTermO : (Tryz.prog.info? 68).map (fun i => (i.zero, i.size, i.bytes)) = some (some (.agg #[.int .i64 0, .int .i64 0, .int .i64 0, .int .i64 0, .int .i64 0, .slice none 0 0]), 6, 64) := by kernel_rfl
def RetTerms (w : World) (l : List TermI) (e : Ending) (w' : World) : Prop := ∃ A' c' l', e = .returned (.slice A' (l' : List TermI).length c') ∧ Hid (l'.map TermI.L = l.map TermI.L) ∧ Hid (Dep (fun k => w.heap.size ≤ k) w' (TermsAt A' l')) ∧ Hid (Below w.heap.size w w')
theorem rows_own {α : Type} {size : Nat} {f : α → List Value} {R : α → World → Prop} {W : World} {n : Nat} {E : TypeId} {A : Option Addr} {c : Nat} {L : List α} (h : W.ownsRow n E size (.slice A L.length c) L.length (L.flatMap f)) (hl : L.length ≤ 9223372036854775807) (hR : ∀ x ∈ L, ∀ V, R x V) : Dep (fun k => n ≤ k) W (RowsAt size f R A L) := fun V hV =>
 ⟨Sl.of_own (own_keep h fun k hk => hV k (own_ty h hk).1 (own_ty h hk).2.1), fun x hx => hR x hx V, hl⟩
theorem own_st (w : World) {A : Option Addr} {l : List TermI} (ha : TermsAt A l w) (hl : l.length ≤ 1048576) (hp : ∀ t ∈ l, t.ps.length ≤ 1048576) (c : Nat) :
  Calls Tryz.prog 126 #[.slice A l.length c] w (RetTerms w l) := by
 have HA : Hid (∀ W, Below w.heap.size w W → TermsAt A l W) := Lh fun W hW => TermsAt.below ha hW
 have HPL := Lh hp
 obtain ⟨i0, hi, hz0, hz1, hz2⟩ := info_parts infoTermO
 clear ha hp
 go_enter Tryz.func126, Tryz.ntmps126
 go_wp2_with fail
 go_loopw [3, 8] (fun ov iv wr => ∃ (k : Nat) (A2 : Option Addr) (c2 : Nat) (L : List TermI), k ≤ l.length ∧ iv = .int .i64 k ∧ L.length = k ∧ ov = .slice A2 L.length c2 ∧ Hid (L.map TermI.L = (l.take k).map TermI.L) ∧ Hid (GoRow w.heap.size 68 6 termC TermW A2 c2 L wr) ∧ Hid (Below w.heap.size w wr)) (fun _ iv _ => l.length - (intOf iv).toNat)
 case atStart => exact ⟨0, none, 0, [], Nat.zero_le _, rfl, rfl, rfl, Lh rfl, Lh (GoRow.nil_ _ _ _ _ _ _), Lh (Below.refl _ _)⟩
 case round =>
 obtain ⟨k, A2, c2, L, hk, rfl, hLk, rfl, HL, HG, HBL⟩ := hrel
 by_cases hlt : k < l.length
 ·obtain ⟨tb, off, t, rfl, hx, hw, hd0, hd1, hd2, hd3, hd4, hd5⟩ := (HA.out _ HBL.out).at_ hlt
  have HX := Lh hx
  have hpl := HPL.out t (List.mem_of_getElem? hx)
  obtain ⟨b, d, tt, u, s, pa, pc, ps⟩ := t
  simp only at hd0 hd1 hd2 hd3 hd4 hd5 hpl
  have HW := Lh hw
  have hsz := HBL.out.size
  obtain ⟨w1, hw1⟩ : ∃ z, wr.alloc (.cells #[.int .i64 b, .int .i64 d, .int .i64 tt, .int .i64 u, .int .i64 s, .slice pa ps.length pc] 68) = z := ⟨_, rfl⟩
  have hb1 : Below wr.heap.size wr w1 := by rw [← hw1]; exact (Below.refl _ _).alloc (Nat.le_refl _) _
  have hx1 : w1.heap[wr.heap.size]? = some (.cells #[.int .i64 b, .int .i64 d, .int .i64 tt, .int .i64 u, .int .i64 s, .slice pa ps.length pc] 68 (0, 0)) := by rw [← hw1]; exact heap_alloc_new wr _
  have hs1 : w1.heap.size = wr.heap.size + 1 := by rw [← hw1]; simp
  have hq5 : w1.cell? ⟨wr.heap.size, 5, none⟩ = some (.slice pa ps.length pc) := by simp [World.cell?, hx1]
  have HB1 := Lh hb1
  have HX1 := Lh hx1
  have HS1 := Lh hs1
  have hpsl : Sl w1 4 pa ps.length (ps.flatMap partC) := hw.2.sl.below (B := 0) hb1
  have HPS := Lh hpsl
  clear hx hw hb1 hx1 hs1 hpsl
  go_wp2_with fail
  refine (ClonePart w1 HPS.out (flat_one partC_one ps) hpl pc).mono ?_
  rintro e w2 ⟨A5, c5, rfl, HO5, HB5⟩
  clear hw1
  have hx2 : w2.heap[wr.heap.size]? = some (.cells #[.int .i64 b, .int .i64 d, .int .i64 tt, .int .i64 u, .int .i64 s, .slice pa ps.length pc] 68 (0, 0)) := (HB5.out.block _ (by have := HS1.out; omega)).trans HX1.out
  have hf2 : w2.frozen? ⟨wr.heap.size, 5, none⟩ = false := by simp [World.frozen?, hx2]
  have hc2 : w2.cell? ⟨wr.heap.size, 5, none⟩ = some (.slice pa ps.length pc) := by simp [World.cell?, hx2]
  obtain ⟨w3, hw3⟩ : ∃ z, w2.setCell ⟨wr.heap.size, 5, none⟩ (.slice A5 ps.length c5) = z := ⟨_, rfl⟩
  have hx3 : w3.heap[wr.heap.size]? = some (.cells #[.int .i64 b, .int .i64 d, .int .i64 tt, .int .i64 u, .int .i64 s, .slice A5 ps.length c5] 68 (0, 0)) := by
   rw [← hw3, heap_setCell_same w2 wr.heap.size 5 _ _ _ hx2]; rfl
  have he0 : w3.cell? ⟨wr.heap.size, 0, none⟩ = some (.int .i64 b) := by simp [World.cell?, hx3]
  have he1 : w3.cell? ⟨wr.heap.size, 1, none⟩ = some (.int .i64 d) := by simp [World.cell?, hx3]
  have he2 : w3.cell? ⟨wr.heap.size, 2, none⟩ = some (.int .i64 tt) := by simp [World.cell?, hx3]
  have he3 : w3.cell? ⟨wr.heap.size, 3, none⟩ = some (.int .i64 u) := by simp [World.cell?, hx3]
  have he4 : w3.cell? ⟨wr.heap.size, 4, none⟩ = some (.int .i64 s) := by simp [World.cell?, hx3]
  have he5 : w3.cell? ⟨wr.heap.size, 5, none⟩ = some (.slice A5 ps.length c5) := by simp [World.cell?, hx3]
  have hst : ∀ j, j ≠ wr.heap.size → w3.heap[j]? = w2.heap[j]? := fun j hj => by rw [← hw3]; exact heap_setCell_other _ _ _ _ hj
  have hs3 : w3.heap.size = w2.heap.size := by rw [← hw3]; simp
  have hs12 := HB5.out.size
  have hold : ∀ j, j < wr.heap.size → w3.heap[j]? = wr.heap[j]? := fun j hj => (hst j (by omega)).trans ((HB5.out.block j (by have := HS1.out; omega)).trans (HB1.out.block j hj))
  have HG3 := Lh (HG.out.keep (by have := HS1.out; omega) fun j _ hj => hold j hj)
  have HB3 : Hid (Below w.heap.size w w3) := Lh (by
   have h := HBL.out.trans ((HB1.out.trans (HB5.out.mono (by have := HS1.out; omega))).mono hsz)
   rw [← hw3]; exact h.setCell hsz _)
  have HD3 : Hid (Dep (fun j => w.heap.size ≤ j ∧ some j ≠ ownA A2) w3 (TermW ⟨b, d, tt, u, s, A5, c5, ps⟩)) := Lh fun V hV => by
   refine ⟨HW.out.1, ?_⟩
   have hk5 : V.ownsRow w1.heap.size 70 4 (.slice A5 ps.length c5) ps.length (ps.flatMap partC) := own_keep HO5.out fun j hj => by
    have h1 := own_ty HO5.out hj
    have hn : j ≠ wr.heap.size := by have := HS1.out; omega
    refine (hV j ⟨by have := HS1.out; omega, fun e => ?_⟩ (by omega)).trans (hst j hn)
    have h2 := (HG.out.rlt j e.symm).2
    have := HS1.out; omega
   exact ⟨Sl.of_own hk5, HW.out.2.it, HW.out.2.ln⟩
  have hz3 : w.heap.size ≤ w3.heap.size := by have := HS1.out; omega
  have hl40 : L.length < 1099511627776 := by omega
  have HO3 : Hid (w3.ownsRow w.heap.size 68 6 (.slice A2 L.length c2) L.length (L.flatMap termC)) := Lh HG3.out.own
  have HLT := Lh hlt
  clear hx2 hst hs3 hold hs12 hx3 hq5 hlt
  subst hLk
  go_wp2_with (at_builtin; go_must (refine wpList_pushG rfl _ _ 57 rfl w.heap.size 68 i0 _ 6 64 Tryz.underlying57 hi hz0 hz1 hz2 rfl (by decide) HO3.out rfl [.int .i64 b, .int .i64 d, .int .i64 tt, .int .i64 u, .int .i64 s, .slice A5 ps.length c5] 68 (by first | rfl | (simp; rfl) | simp) rfl (by simp [Value.oneCell']) hl40 (by decide) hz3 ?_); intro A9 c9 w9 HO9 HG9 HN9)
  have HGN := Lh (HG3.out.push (x := ⟨b, d, tt, u, s, A5, c5, ps⟩) HO9.out HG9.out HN9.out HD3.out)
  have HBN : Hid (Below w.heap.size w w9) := Lh ((HB3.out.alloc hz3 _).grown HG9.out (by simp; omega) fun g hg => (HG3.out.rlt g hg).1)
  go_roundw
  case rel => exact ⟨L.length + 1, A9, c9, L ++ [⟨b, d, tt, u, s, A5, c5, ps⟩], by have := HLT.out; omega, by go_num, by simp, by simp, Lh (by rw [List.map_append, HL.out, take_snoc? HX.out, List.map_append]; rfl), HGN, HBN⟩
  case measure => have := HLT.out; simp [intOf]; omega
 ·obtain rfl : k = l.length := by omega
  have hd : decide (l.length < l.length) = false := by simp
  have HLA : Hid (L.map TermI.L = l.map TermI.L) := Lh (by have := HL.out; rwa [List.take_length] at this)
  go_wp2_with fail
  go_ret
  exact ⟨A2, c2, L, rfl, HLA, Lh (HG.out.rows (by omega)), HBL⟩
section
theorem dOwn_st (w : World) {A : Option Addr} {l : List TermI} (ha : TermsAt A l w) (hl : l.length ≤ 1048576) (hp : ∀ t ∈ l, t.ps.length ≤ 1048576) (c : Nat) :
  Calls Tryz.prog 97 #[.slice A l.length c] w (RetTerms w l) := by
 have HA : Hid (∀ W, Below w.heap.size w W → TermsAt A l W) := Lh fun W hW => TermsAt.below ha hW
 have HPL := Lh hp
 have HSL := Lh ha.sl
 clear ha hp
 go_enter Tryz.func97, Tryz.ntmps97
 go_wp2_with fail
 refine (CloneTerm w HSL.out (flat_one (fun x u hu => termC_one x u hu) l) hl c).mono ?_
 rintro e w1 ⟨A1, c1, rfl, HO, HB⟩
 have HF0 : Hid (Fill w.heap.size w.heap.size 68 6 termC TermW TermI.L A1 c1 l l 0 w w1) := Lh (Fill.start HO.out HB.out)
 clear HO HB
 go_wp2_with fail
 go_loopw [8] (fun iv wr => ∃ (k : Nat) (l' : List TermI), k ≤ l.length ∧ iv = .int .i64 k ∧ Hid (Fill w.heap.size w.heap.size 68 6 termC TermW TermI.L A1 c1 l l' k w wr)) (fun iv _ => l.length - (intOf iv).toNat)
 case atStart => exact ⟨0, l, Nat.zero_le _, rfl, HF0⟩
 case round =>
 clear HF0
 obtain ⟨k, l', hk, rfl, HF⟩ := hrel
 by_cases hlt : k < l.length
 ·obtain ⟨x, hx⟩ : ∃ x, l[k]? = some x := ⟨_, List.getElem?_eq_getElem hlt⟩
  obtain ⟨b, rfl, hx', hcell, hfz⟩ := HF.out.at_ (fun _ => rfl) hx
  have c5 : wr.cell? ⟨b, k * 6 + 5, none⟩ = some (.slice x.pa x.ps.length x.pc) := hcell 5 _ rfl
  have HXW : Hid (TermW x wr) := Lh ((HA.out wr HF.out.bel).it x (List.mem_of_getElem? hx))
  have hpl := HPL.out x (List.mem_of_getElem? hx)
  have HX := Lh hx'
  have HFZ := Lh hfz
  have hli : (k : Int) < (l.length : Int) := by omega
  have hk0 : (0 : Int) ≤ (k : Int) := by omega
  clear hx hx' hcell hfz
  go_wp2_with fail
  refine (ClonePart wr HXW.out.2.sl (flat_one (fun y u hu => partC_one y u hu) x.ps) hpl x.pc).mono ?_
  rintro e w2 ⟨A2, c2, rfl, HO2, HB2⟩
  have c5' : w2.cell? ⟨b, k * 6 + 5, none⟩ = some (.slice x.pa x.ps.length x.pc) := (HB2.out.cell (p := ⟨b, k * 6 + 5, none⟩) (lt_of_cell c5)).trans c5
  have hf5 : w2.frozen? ⟨b, k * 6 + 5, none⟩ = false := (own_keep HF.out.own fun j hj => HB2.out.block j (own_ty HF.out.own hj).2.1).frozenAt _
  have HF2 : Hid (Fill w.heap.size w.heap.size 68 6 termC TermW TermI.L (some ⟨b, 0, none⟩) c1 l (l'.set k { x with pa := A2, pc := c2 }) (k + 1) w (w2.setCell ⟨b, k * 6 + 5, none⟩ (.slice A2 x.ps.length c2))) := Lh
   (HF.out.step (fun _ => rfl) HX.out rfl (by decide) rfl rfl HB2.out (fun V hV => ⟨HXW.out.1, (rows_own HO2.out (by omega) (fun y hy U => HXW.out.2.it y hy)) V hV⟩) (Nat.le_refl _) HF.out.bel.size)
  clear c5
  go_wp2_with fail
  exact ⟨⟨k + 1, _, by omega, by go_num, HF2⟩, by simp [intOf]; omega⟩
 ·obtain rfl : k = l.length := by omega
  have hd : decide (l.length < l.length) = false := by simp
  have hlen := HF.out.len
  have HFI := Lh (HF.out.fin (Nat.le_refl _) (by omega))
  go_wp2_with fail
  go_ret
  refine ⟨A1, c1, l', ?_, Lh HFI.out.2, Lh (HFI.out.1.mono fun i hi _ => hi.elim id fun e => (own_ty HF.out.own e).1), Lh HF.out.bel⟩
  rw [hlen]; rfl
end
section
theorem yielded_undef {ops : Array Oper} {tmps : Array Value} {j : Nat} (h : ((ops[j]?).bind (·.dst)).bind (tmps[·]?) = some undef) : yielded ops tmps j = none := by
 unfold yielded; rw [h]; rfl
attribute [local go_sem ↓] yielded_undef
section
variable {w0 w : World} {F : World → Prop} {A : Option Addr} {l : List PartL}
theorem Domain1_any (w : World) : Calls Tryz.prog 54 #[.int .i64 1] w fun e w' => (∃ A, e = .returned (.slice A 1 1)) ∧ Below w.heap.size w w' := by
 go_enter Tryz.func54, Tryz.ntmps54
 go_wp2_with fail
 go_ret
 exact ⟨⟨_, rfl⟩, (Below.refl _ _).alloc (Nat.le_refl _) _⟩
theorem Domain1_st (hK : Hid (St w0 w F)) : Calls Tryz.prog 54 #[.int .i64 1] w fun e w' => (∃ A, e = .returned (.slice A 1 1)) ∧ Hid (St w0 w' F) :=
 (Domain1_any w).mono fun e w' ⟨h1, h2⟩ => ⟨h1, St.hstep hK h2⟩
def PartsTo (n : Int) (l : List PartL) (k : Nat) : Prop := ∀ p ∈ l.take k, PartOk n p
theorem tRight_st (hK : Hid (St w0 w F)) (hp : ∀ W, F W → PartsAt A l W) (b d t u s : Int) (c : Nat) (n : Int) (v : Bool) (hv : Hid (pB (TermOk n ⟨b, d, t, u, s, l⟩) = v)) :
  Calls Tryz.prog 172 #[.agg #[.int .i64 b, .int .i64 d, .int .i64 t, .int .i64 u, .int .i64 s, .slice A l.length c], .int .i64 1, .int .i64 1, .int .i64 n] w (RetV w0 (.bool v) F) := by
 have hln := (hp _ hK.out.now).ln
 have HP := Lh hp
 have HK := St.box hK [.int .i64 b, .int .i64 d, .int .i64 t, .int .i64 u, .int .i64 s, .slice A l.length c] 68
 clear hp
 go_enter Tryz.func172, Tryz.ntmps172
 go_wp2_with fail
 refine (Domain1_st HK).mono ?_
 rintro e w1 ⟨⟨A1, rfl⟩, HK1⟩
 go_wp2_with fail
 refine (Domain1_st HK1).mono ?_
 rintro e w2 ⟨⟨A2, rfl⟩, HK2⟩
 obtain ⟨hc0, hc1, hc2, hc3, hc4, hc5⟩ := HK2.out.now.1.c6
 by_cases a1 : NumsOk ⟨b, d, t, u, s, l⟩
 case neg =>
  obtain rfl := pB_f hv (fun h => a1 h.1)
  have H1 := Lh (pB_false a1)
  clear a1
  go_wp2_with fail
  refine (numbers_st HK2 (fun _ h => HP.out _ h.2) b d t u s c false H1).mono ?_
  rintro e w3 ⟨rfl, HK3⟩
  go_wp2_with fail
  go_ret
  exact ⟨rfl, Lh (HK3.out.weaken fun _ h => h.2)⟩
 have H1 := Lh (pB_true a1)
 have HA := Lh a1
 clear a1
 go_wp2_with fail
 refine (numbers_st HK2 (fun _ h => HP.out _ h.2) b d t u s c true H1).mono ?_
 rintro e w3 ⟨rfl, HK3⟩
 clear hc0 hc1 hc2 hc3 hc4 hc5
 have hc5 := HK3.out.now.1 5 _ rfl
 have h4 : l.length ≤ 4 := HA.out.2.2.2.2
 go_wp2_with fail
 go_loopw [29] (fun i wr => ∃ k : Nat, k ≤ l.length ∧ i = .int .i64 k ∧ Hid (PartsTo n l k) ∧ Hid (St w0 wr (fun W => BoxC w.heap.size [.int .i64 b, .int .i64 d, .int .i64 t, .int .i64 u, .int .i64 s, .slice A l.length c] W ∧ F W))) (fun i _ => l.length - (intOf i).toNat)
 case atStart => exact ⟨0, Nat.zero_le _, rfl, Lh (fun p hp => by simp at hp), HK3⟩
 case round =>
 clear hc5
 obtain ⟨k, hk, rfl, HR, HK⟩ := hrel
 by_cases hlt : k < l.length
 ·obtain ⟨pb, off, p, rfl, hx, hw, hd0, hd1, hd2, hd3⟩ := (HP.out _ HK.out.now.2).at_ hlt
  have hlw := lt_of_cell hd0
  have HKp := St.box HK [.int .i64 p.1, .int .i64 p.2.1, .int .i64 p.2.2.1, .int .i64 p.2.2.2] 70
  obtain ⟨x1, x2, x3, x4⟩ := p
  simp only at hd0 hd1 hd2 hd3 HKp
  have HX := Lh hx
  clear hx hw
  by_cases a2 : PartOk n (x1, x2, x3, x4)
  ·have H2 := Lh (pB_true a2)
   have HN : Hid (PartsTo n l (k + 1)) := Lh fun q hq => by
    rw [take_snoc? HX.out] at hq
    rcases List.mem_append.1 hq with hq | hq
    ·exact HR.out q hq
    ·simp at hq; subst hq; exact a2
   clear a2
   go_wp2_with fail
   have HK := St.hdrewN HKp 1
   first | (go_region_with (go_at_call 183; refine (PRight_st HK x1 x2 x3 x4 n true H2).mono ?_; rintro e w5 ⟨rfl, HK⟩)) | fail
   all_goals (go_wp2_with fail; exact ⟨⟨k + 1, by omega, by go_num, HN, Lh (HK.out.weaken fun _ h => h.2)⟩, by simp [intOf]; omega⟩)
  ·have H2 := Lh (pB_false a2)
   obtain rfl := pB_f hv (fun h => a2 (h.2 _ (List.mem_of_getElem? HX.out)))
   clear a2
   go_wp2_with fail
   have HK := St.hdrewN HKp 1
   first | (go_region_with (go_at_call 183; refine (PRight_st HK x1 x2 x3 x4 n false H2).mono ?_; rintro e w5 ⟨rfl, HK⟩)) | fail
   all_goals (go_wp2_with fail; go_ret; exact ⟨rfl, Lh (HK.out.weaken fun _ h => h.2.2)⟩)
 ·obtain rfl : k = l.length := by omega
  have hd : decide (l.length < l.length) = false := by simp
  obtain rfl := pB_t hv ⟨HA.out, by have := HR.out; unfold PartsTo at this; rwa [List.take_length] at this⟩
  go_wp2_with fail
  go_ret
  exact ⟨rfl, Lh (HK.out.weaken fun _ h => h.2)⟩
end
end
section
def RetIx (w0 : World) (v : Bool) (F : World → Prop) (e : Ending) (w' : World) : Prop := ∃ r : Int, e = .returned (.int .i64 r) ∧ ((v = true ∧ r = -1) ∨ (v = false ∧ 0 ≤ r)) ∧ Hid (St w0 w' F)
def TermsTo (n : Int) (l : List TermI) (k : Nat) : Prop := ∀ i ∈ l.take k, TermOk n i.L
theorem TermsTo.all {n : Int} {l : List TermI} (h : TermsTo n l l.length) : TermsOk n (l.map TermI.L) := fun t ht => by
 obtain ⟨i, hi, rfl⟩ := List.mem_map.1 ht
 exact h i (by rwa [List.take_length])
theorem TermsTo.next {n : Int} {l : List TermI} {k : Nat} {i : TermI} (h : TermsTo n l k) (hx : l[k]? = some i) (hi : TermOk n i.L) : TermsTo n l (k + 1) := fun q hq => by
 rw [take_snoc? hx] at hq
 rcases List.mem_append.1 hq with hq | hq
 ·exact h q hq
 ·simp at hq; subst hq; exact hi
section
variable {w0 w : World} {F : World → Prop} {A : Option Addr} {l : List TermI}
theorem trm_st (hK : Hid (St w0 w F)) (i : TermI) (hp : ∀ W, F W → PartsAt i.pa i.ps W) (n : Int) (v : Bool) (hv : Hid (pB (TermOk n i.L) = v)) :
  Calls Tryz.prog 172 #[.agg #[.int .i64 i.b, .int .i64 i.d, .int .i64 i.t, .int .i64 i.u, .int .i64 i.s, .slice i.pa i.ps.length i.pc], .int .i64 1, .int .i64 1, .int .i64 n] w (RetV w0 (.bool v) F) :=
 tRight_st hK hp i.b i.d i.t i.u i.s i.pc n v hv
theorem right1_st (hK : Hid (St w0 w F)) (i : TermI) (hp : ∀ W, F W → PartsAt i.pa i.ps W) (nb : Nat) (n : Int) (hn : ∀ W, F W → BoxC nb [.int .i64 n] W) (v : Bool) (hv : Hid (pB (TermOk n i.L) = v)) :
  Calls Tryz.prog 171 #[.agg #[.int .i64 i.b, .int .i64 i.d, .int .i64 i.t, .int .i64 i.u, .int .i64 i.s, .slice i.pa i.ps.length i.pc], .pointer (some ⟨nb, 0, none⟩)] w (RetV w0 (.bool (!v)) F) := by
 have HK := St.box hK [.int .i64 i.b, .int .i64 i.d, .int .i64 i.t, .int .i64 i.u, .int .i64 i.s, .slice i.pa i.ps.length i.pc] 68
 have hc := hn _ HK.out.now.2 0 _ rfl
 have HP := Lh hp
 clear hp hn
 go_enter Tryz.func171, Tryz.ntmps171
 go_wp2_with fail
 refine (trm_st HK i (fun _ h => HP.out _ h.2) n v hv).mono ?_
 rintro e w1 ⟨rfl, HK1⟩
 cases v
 all_goals
  go_wp2_with fail
  go_ret
  exact ⟨rfl, Lh (HK1.out.weaken fun _ h => h.2)⟩
theorem indexT_st (hK : Hid (St w0 w F)) (hp : ∀ W, F W → TermsAt A l W) (c : Nat) (nb : Nat) (n : Int) (hn : ∀ W, F W → BoxC nb [.int .i64 n] W) (v : Bool) (hv : Hid (pB (TermsOk n (l.map TermI.L)) = v)) :
  Calls Tryz.prog 200 #[.slice A l.length c, .func (.func 171) #[] #[.pointer (some ⟨nb, 0, none⟩)]] w (RetIx w0 v F) := by
 have hln := (hp _ hK.out.now).ln
 have HP := Lh hp
 have HN := Lh hn
 clear hp hn
 go_enter Tryz.func200, Tryz.ntmps200
 go_wp2_with fail
 go_loopw [8] (fun i wr => ∃ k : Nat, k ≤ l.length ∧ i = .int .i64 k ∧ Hid (TermsTo n l k) ∧ Hid (St w0 wr F)) (fun i _ => l.length - (intOf i).toNat)
 case atStart => exact ⟨0, Nat.zero_le _, rfl, Lh (fun i hi => by simp at hi), hK⟩
 case round =>
 obtain ⟨k, hk, rfl, HR, HK⟩ := hrel
 by_cases hlt : k < l.length
 ·obtain ⟨pb, off, i, rfl, hx, hw, hd0, hd1, hd2, hd3, hd4, hd5⟩ := (HP.out _ HK.out.now).at_ hlt
  have HX := Lh hx
  have HKi := Lh (HK.out.add (Below.refl _ _) (G := PartsAt i.pa i.ps) (fun W hW => hw.2.below hW))
  clear hx hw
  by_cases a2 : TermOk n i.L
  ·have H2 := Lh (pB_true a2)
   have HR2 := Lh (HR.out.next HX.out a2)
   clear a2
   go_wp2_with fail
   refine (right1_st HKi i (fun _ h => h.1) nb n (fun _ h => HN.out _ h.2) true H2).mono ?_
   rintro e w1 ⟨rfl, HK1⟩
   go_wp2_with fail
   exact ⟨⟨k + 1, by omega, by go_num, HR2, Lh (HK1.out.weaken fun _ h => h.2)⟩, by simp [intOf]; omega⟩
  ·have H2 := Lh (pB_false a2)
   obtain rfl := pB_f hv (fun h => a2 (h _ (List.mem_map.2 ⟨i, List.mem_of_getElem? HX.out, rfl⟩)))
   clear a2
   go_wp2_with fail
   refine (right1_st HKi i (fun _ h => h.1) nb n (fun _ h => HN.out _ h.2) false H2).mono ?_
   rintro e w1 ⟨rfl, HK1⟩
   go_wp2_with fail
   go_ret
   exact ⟨k, rfl, .inr ⟨rfl, by omega⟩, Lh (HK1.out.weaken fun _ h => h.2)⟩
 ·obtain rfl : k = l.length := by omega
  have hd : decide (l.length < l.length) = false := by simp
  obtain rfl := pB_t hv HR.out.all
  go_wp2_with fail
  go_ret
  exact ⟨-1, rfl, .inl ⟨rfl, rfl⟩, HK⟩
theorem containsT_st (hK : Hid (St w0 w F)) (hp : ∀ W, F W → TermsAt A l W) (c : Nat) (nb : Nat) (n : Int) (hn : ∀ W, F W → BoxC nb [.int .i64 n] W) (v : Bool) (hv : Hid (pB (TermsOk n (l.map TermI.L)) = v)) :
  Calls Tryz.prog 170 #[.slice A l.length c, .func (.func 171) #[] #[.pointer (some ⟨nb, 0, none⟩)]] w (RetV w0 (.bool (!v)) F) := by
 have HP := Lh hp
 have HN := Lh hn
 clear hp hn
 go_enter Tryz.func170, Tryz.ntmps170
 go_wp2_with fail
 refine (indexT_st hK HP.out c nb n HN.out v hv).mono ?_
 rintro e w1 ⟨r, rfl, hr, HK1⟩
 rcases hr with ⟨rfl, rfl⟩ | ⟨rfl, hr⟩
 all_goals
  go_wp2_with fail
  go_ret
  exact ⟨rfl, HK1⟩
theorem right_st (hK : Hid (St w0 w F)) (hp : ∀ W, F W → TermsAt A l W) (c : Nat) (n : Int) (v : Bool) (hv : Hid (pB (TermsOk n (l.map TermI.L)) = v)) :
  Calls Tryz.prog 132 #[.slice A l.length c, .int .i64 n] w (RetV w0 (.bool v) F) := by
 have HP := Lh hp
 have HK := St.box hK [.int .i64 n] 3
 clear hp
 go_enter Tryz.func132, Tryz.ntmps132
 go_wp2_with fail
 refine (containsT_st HK (fun _ h => HP.out _ h.2) c w.heap.size n (fun _ h => h.1) v hv).mono ?_
 rintro e w1 ⟨rfl, HK1⟩
 cases v
 all_goals
  go_wp2_with fail
  go_ret
  exact ⟨rfl, Lh (HK1.out.weaken fun _ h => h.2)⟩
end
end
end Go.Proofs.YtlmkokeapbleoaaGreat
