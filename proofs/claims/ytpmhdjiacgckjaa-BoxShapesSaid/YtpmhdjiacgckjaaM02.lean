/- Words and small lemmas that all walks of this seat use: slices as lists, hidden facts, taking one more element. Condition: none. Contract of umlautref01.Same, two spans compared; new slices of spans. Condition: the slices that come in are no longer than an int can count. Plain facts on lists of spans as sets of whole numbers: a plain list is the only one of its set. No program in sight. Condition: none. Spans sorted by the library, in this seat's words: a slice of the call's own holds them in the order of their lower ends. Condition: fewer than 2^40 spans, and a slice that is not nil. Contracts of span.Check, span.Has, umlautref01.Has. Condition: the list is no longer than an int can count, its numbers are ints. Contracts of umlautref01.put and umlautref01.borders. Condition: lists shorter than 2^30. -/
import Derived.Test.YtpmhdjiacgckjaaRows
import Derived.WalkKit
import Derived.ProofKit
import Derived.BigQuiet
import Derived.Deep.QuietTactic
import Derived.WalkSpells
import Derived.Lib.Hide
import Derived.Lib.OthersKept
import Derived.Lib.DecodeN
import Derived.Laws.OwnMore
import Derived.Deep.Draws
import Derived.Deep.AppendLies
import Derived.Maps.AppendAt
import Derived.Laws.StructEq
import Derived.Test.YtpmhdjiacgckjaaShelf
section
namespace Go.Proofs.Ytpmhdjiacgckjaa
open Go.RowKit
set_option linter.unusedVariables false

/-- the slice value '.slice A n _' holds the cells cs, 'size' cells an element -/
def Sl (w : World) (size : Nat) (A : Option Addr) (n : Nat) (cs : List Value) : Prop :=
  cs.length = n * size ∧ (0 < n → ∃ b off, A = some ⟨b, off, none⟩ ∧ ∀ j u, cs[j]? = some u → w.cell? ⟨b, off + j, none⟩ = some u)

theorem lt_of_cell {w : World} {b o : Nat} {u : Value} (h : w.cell? ⟨b, o, none⟩ = some u) : b < w.heap.size := World.block_lt_of_cell? w _ h

theorem lt_of_below {W w : World} {b o : Nat} {u : Value} (hb : Below W.heap.size W w) (h : W.cell? ⟨b, o, none⟩ = some u) : b < W.heap.size := lt_of_cell h

theorem own_shape {w : World} {base : Nat} {e : TypeId} {size : Nat} {v : Value} {n : Nat} {xs : List Value} (h : w.ownsRow base e size v n xs) : ∃ A c, v = .slice A n c := by
  rcases h.2 with ⟨rfl, rfl⟩ | ⟨g, cap, cur, rfl, _⟩
  · exact ⟨none, 0, rfl⟩
  · exact ⟨_, _, rfl⟩
theorem ownsRow_drewN {w : World} {base : Nat} {e : TypeId} {size : Nat} {v : Value} {n : Nat} {xs : List Value} (h : w.ownsRow base e size v n xs) (q : Nat) : (w.drewN q).ownsRow base e size v n xs := h

section
variable {w w' : World} {size n : Nat} {A : Option Addr} {cs : List Value}
theorem Sl.len (h : Sl w size A n cs) : cs.length = n * size := h.1
theorem Sl.nil_ (w : World) (size : Nat) (A : Option Addr) : Sl w size A 0 [] := ⟨by simp, fun h => absurd h (by omega)⟩
theorem Sl.keep (h : Sl w size A n cs) (hk : ∀ (p : Addr) u, w.cell? p = some u → w'.cell? p = some u) : Sl w' size A n cs :=
  ⟨h.1, fun hn => by
    obtain ⟨b, off, hA, hc⟩ := h.2 hn
    exact ⟨b, off, hA, fun j u hu => hk _ _ (hc j u hu)⟩⟩
theorem Sl.below {B : Nat} (h : Sl w size A n cs) (hb : Below w.heap.size w w') : Sl w' size A n cs :=
  h.keep fun p u hu => (hb.cell (World.block_lt_of_cell? w _ hu)).trans hu
theorem Sl.drew (h : Sl w size A n cs) : Sl w.drew size A n cs := h
theorem Sl.drewN (h : Sl w size A n cs) (k : Nat) : Sl (w.drewN k) size A n cs := h
theorem Sl.alloc (h : Sl w size A n cs) (o : Obj) : Sl (w.alloc o) size A n cs :=
  h.keep fun p u hu => (World.cell?_alloc_lt w o p (World.block_lt_of_cell? w _ hu)).trans hu
theorem Sl.of_own {base : Nat} {e : TypeId} {c : Nat} (h : w.ownsRow base e size (.slice A n c) n cs) : Sl w size A n cs := by
  refine ⟨h.1, fun hn => ?_⟩
  obtain ⟨g, cap, hv, _, hlt⟩ := h.form hn
  have hA : A = some ⟨g, 0, none⟩ := by injection hv
  subst hA
  refine ⟨g, 0, rfl, fun j u hu => ?_⟩
  have := h.cells (g := g) rfl j u hu
  have e : (⟨g, 0, none⟩ : Addr).add j = ⟨g, 0 + j, none⟩ := by unfold Addr.add; split <;> simp_all
  rw [e] at this
  exact this
/-- the first k elements -/
theorem Sl.take {k : Nat} (h : Sl w size A n cs) (hk : k ≤ n) : Sl w size A k (cs.take (k * size)) := by
  refine ⟨?_, fun hn => ?_⟩
  · rw [List.length_take, h.1]; exact Nat.min_eq_left (Nat.mul_le_mul_right _ hk)
  · obtain ⟨b, off, hA, hc⟩ := h.2 (by omega)
    refine ⟨b, off, hA, fun j u hu => hc j u ?_⟩
    rw [List.getElem?_take] at hu
    split at hu
    · exact hu
    · cases hu
end

/-- a slice of integers -/
def Ints (k : IntKind) (w : World) (A : Option Addr) (n : Nat) (xs : List Int) : Prop := Sl w 1 A n (xs.map (Value.int k))
section
variable {k : IntKind} {w w' : World} {n : Nat} {A : Option Addr} {xs : List Int}
theorem Ints.len (h : Ints k w A n xs) : xs.length = n := by have := Sl.len h; simpa using this
theorem Ints.at_ (h : Ints k w A n xs) {j : Nat} (hj : j < n) : ∃ b off x, A = some ⟨b, off, none⟩ ∧ xs[j]? = some x ∧ w.cell? ⟨b, off + j, none⟩ = some (.int k x) := by
  obtain ⟨b, off, hA, hc⟩ := h.2 (by omega)
  have hl := h.len
  have hx : xs[j]? = some (xs[j]'(by omega)) := List.getElem?_eq_getElem (by omega)
  exact ⟨b, off, _, hA, hx, hc j _ (by rw [List.getElem?_map, hx]; rfl)⟩
theorem Ints.below (h : Ints k w A n xs) (hb : Below w.heap.size w w') : Ints k w' A n xs := Sl.below (B := 0) h hb
theorem Ints.alloc (h : Ints k w A n xs) (o : Obj) : Ints k (w.alloc o) A n xs := Sl.alloc h o
theorem Ints.take (h : Ints k w A n xs) {m : Nat} (hm : m ≤ n) : Ints k w A m (xs.take m) := by
  have := Sl.take h hm
  rw [Nat.mul_one, ← List.map_take] at this
  exact this
end

theorem take_snoc? {α : Type} {xs : List α} {k : Nat} {x : α} (h : xs[k]? = some x) : xs.take (k + 1) = xs.take k ++ [x] := by
  rw [List.take_add_one, h]; rfl
theorem drop_cons? {α : Type} {xs : List α} {k : Nat} {x : α} (h : xs[k]? = some x) : xs.drop k = x :: xs.drop (k + 1) := by
  obtain ⟨hl, rfl⟩ := List.getElem?_eq_some_iff.1 h
  exact List.drop_eq_getElem_cons hl
def cmpI (x y : Int) : Int := if x < y then -1 else if y < x then 1 else 0
theorem ret_bool {a b : Bool} (h : a = b) : Ending.returned (.bool a) = .returned (.bool b) := by rw [h]
theorem ret_int {k : IntKind} {a b : Int} (h : a = b) : Ending.returned (.int k a) = .returned (.int k b) := by rw [h]

/-- a call that returns v and leaves the world alone -/
def Pure (P : Program) (f : FuncId) (args : Array Value) (v : Value) : Prop := ∀ w, Calls P f args w fun e w' => e = .returned v ∧ w = w'
theorem Pure.as {P : Program} {f : FuncId} {args : Array Value} {v v' : Value} (h : Pure P f args v) (hv : v = v') : Pure P f args v' := hv ▸ h
theorem pure_of {P : Program} {f : FuncId} {args : Array Value} {v v' : Value} (h : ∀ w, Calls P f args w fun e w' => e = .returned v ∧ w = w') (hv : v = v') : Pure P f args v' := hv ▸ h
theorem Pure.out {P : Program} {f : FuncId} {args : Array Value} {v : Value} (h : Pure P f args v) (w : World) : Calls P f args w fun e w' => e = .returned v ∧ w = w' := h w
/-- a call at one world that returns v and draws at most -/
def Drawn (P : Program) (f : FuncId) (args : Array Value) (w : World) (v : Value) : Prop := Calls P f args w fun e w' => e = .returned v ∧ ∃ n, w' = w.drewN n
/-- a call at one world that returns v; nothing that was there has changed -/
def Gives (P : Program) (f : FuncId) (args : Array Value) (w : World) (v : Value) : Prop := Calls P f args w fun e w' => e = .returned v ∧ Below w.heap.size w w'
theorem Gives.out {P : Program} {f : FuncId} {args : Array Value} {w : World} {v : Value} (h : Gives P f args w v) : Calls P f args w fun e w' => e = .returned v ∧ Below w.heap.size w w' := h
theorem Gives.as {P : Program} {f : FuncId} {args : Array Value} {w : World} {v v' : Value} (h : Gives P f args w v) (hv : v = v') : Gives P f args w v' := hv ▸ h
theorem Drawn.as {P : Program} {f : FuncId} {args : Array Value} {w : World} {v v' : Value} (h : Drawn P f args w v) (hv : v = v') : Drawn P f args w v' := hv ▸ h
theorem Drawn.out {P : Program} {f : FuncId} {args : Array Value} {w : World} {v : Value} (h : Drawn P f args w v) : Calls P f args w fun e w' => e = .returned v ∧ ∃ n, w' = w.drewN n := h
theorem below_drewN {B : Nat} {a w : World} (h : Below B a w) (n : Nat) : Below B a (w.drewN n) := ⟨h.os, h.tape, h.output, h.size, h.block⟩
theorem Drawn.gives {P : Program} {f : FuncId} {args : Array Value} {w : World} {v : Value} (h : Drawn P f args w v) : Gives P f args w v :=
  Calls.mono h fun e w' ⟨he, n, hw⟩ => ⟨he, by rw [hw]; exact below_drewN (Below.refl _ _) n⟩
theorem Pure.gives {P : Program} {f : FuncId} {args : Array Value} {v : Value} (h : Pure P f args v) (w : World) : Gives P f args w v :=
  Calls.mono (h w) fun e w' ⟨he, hw⟩ => ⟨he, by rw [← hw]; exact Below.refl _ _⟩

/-- a pure callee inside a region that draws its order -/
theorem Pure.quiet {P : Program} {f : FuncId} {args : Array Value} {v : Value} (h : Pure P f args v) {w : World} {n : Nat} :
    Calls P f args (w.drewN n) fun e w'' => e = .returned v ∧ ∃ m, w'' = w.drewN m :=
  (h (w.drewN n)).mono fun _ _ ⟨he, hm⟩ => ⟨he, n, hm.symm⟩
theorem Pure.quiet2 {P : Program} {f : FuncId} {args : Array Value} {v : Value} (h : Pure P f args v) {w : World} {a n : Nat} :
    Calls P f args (w.drewN (a + n)) fun e w'' => e = .returned v ∧ ∃ m, w'' = w.drewN (a + m) :=
  (h (w.drewN (a + n))).mono fun _ _ ⟨he, hm⟩ => ⟨he, n, hm.symm⟩
theorem Pure.quiet3 {P : Program} {f : FuncId} {args : Array Value} {v : Value} (h : Pure P f args v) {w : World} {a n : Nat} :
    Calls P f args (w.drewN (a + n)) fun e w'' => e = .returned v ∧ ∃ m, w'' = (w.drewN a).drewN m :=
  (h (w.drewN (a + n))).mono fun _ _ ⟨he, hm⟩ => ⟨he, n, by rw [World.drewN_drewN]; exact hm.symm⟩

theorem below_to {W a b : World} (h : Below W.heap.size W a) (k : Below a.heap.size a b) : Below W.heap.size W b := h.trans (k.mono h.size)

/-- 'out = append(out, x)': one element of 'size' cells, laid in a block of its own first -/
theorem wpList_push {P : Program} {w0 : World} {ops : Array Oper} {rest : List Oper} {o : Oper} {a : Act} {Q : Exit → Act → World → Prop} (hgd : o.guard = none) (s x : Operand) (t : TypeId)
    (ho : o.op = .call { callee := .builtin .append, args := #[s, x], argTypes := #[t, t] })
    (base : Nat) (e : TypeId) (i : TypeInfo) (z : Value) (size bytes : Nat) (ht : P.underlying t = some (.slice e)) (hi : P.info? e = some i) (hz : i.zero = some z)
    (hsize : i.size = size) (hby : i.bytes = bytes) (hzs : z.cells.size = size) (hsz : 0 < size)
    {v : Value} {n : Nat} {xs : List Value} (hown : w0.ownsRow base e size v n xs) (hs : a.eval s = v)
    (news : List Value) (e' : TypeId) (hx : a.eval x = .slice (some ⟨w0.heap.size, 0, none⟩) 1 1) (hl : news.length = size) (h1 : ∀ u ∈ news, u.oneCell' = true)
    (hn : n < 1099511627776) (hb : bytes ≤ 128) (hbase : base ≤ w0.heap.size)
    (h : ∀ v' w', w'.ownsRow base e size v' (n + 1) (xs ++ news) → (w0.alloc (.cells news.toArray e')).grownBy w' v.ownBlock → (v' = .slice none 0 0 ↔ v = .slice none 0 0 ∧ 1 = 0) → wpList P ops Q rest (a.put o.dst v') w') :
    wpList P ops Q (o :: rest) a (w0.alloc (.cells news.toArray e')) := by
  refine wpList_append_own _ hgd s x t ho base e i z size bytes ht hi hz hsize hby hzs hsz v n xs hs (hown.alloc _) ⟨w0.heap.size, 0, none⟩ 1 1 news hx (by omega) ?_ h1 (by unfold maxLen; omega) ?_ (by simp; omega) h
  · intro j u hu
    have e : (⟨w0.heap.size, 0, none⟩ : Addr).add j = ⟨w0.heap.size, 0 + j, none⟩ := by unfold Addr.add; split <;> simp_all
    rw [e]
    have hb : (w0.alloc (.cells news.toArray e')).heap[w0.heap.size]? = some (.cells news.toArray e' (0, 0)) := heap_alloc_new w0 _
    simp only [World.cell?, hb]
    simpa using hu
  · have : (n + 1) * bytes ≤ (n + 1) * 128 := Nat.mul_le_mul_left _ hb
    omega
theorem below_pushed {B : Nat} {W w0 w' : World} {o : Obj} {base : Nat} {e : TypeId} {size n : Nat} {v : Value} {xs : List Value} (hb : Below B W w0) (hown : w0.ownsRow base e size v n xs) (hB : B ≤ base) (hB' : B ≤ w0.heap.size)
    (hg : (w0.alloc o).grownBy w' v.ownBlock) : Below B W w' :=
  (hb.alloc hB' o).grown hg (by simp; omega) (fun k hk => Nat.le_trans hB (hown.lt k hk).1)

/-- what the frame tells of a slice of integers that came in -/
def IsRow (k : IntKind) (w : World) (a : Option Addr) (len cap : Nat) (zs : List Int) : Prop :=
  (a = none ∧ len = 0 ∧ cap = 0 ∧ zs = []) ∨
  ∃ x, a = some x ∧ len ≤ cap ∧ cap ≤ maxLen ∧ zs.length = cap ∧ (∀ i, i < zs.length → w.cell? (x.add i) = some (.int k (zs.getD i 0))) ∧ ∀ n ∈ zs, (Lit.int k n).wf = true
theorem IsRow.cap {k : IntKind} {w : World} {a : Option Addr} {len cap : Nat} {zs : List Int} (h : IsRow k w a len cap zs) : len ≤ cap ∧ cap ≤ 9223372036854775807 := by
  rcases h with ⟨_, rfl, rfl, _⟩ | ⟨x, _, h1, h2, _⟩
  · omega
  · exact ⟨h1, h2⟩
theorem IsRow.ints {k : IntKind} {w : World} {a : Option Addr} {len cap : Nat} {zs : List Int} (h : IsRow k w a len cap zs) : Ints k w a len (zs.take len) := by
  rcases h with ⟨rfl, rfl, rfl, rfl⟩ | ⟨x, rfl, h1, _, hz, hc, _⟩
  · exact Sl.nil_ _ _ _
  · refine ⟨by simp; omega, fun hn => ?_⟩
    obtain ⟨b, off, spot⟩ := x
    have h0 := hc 0 (by omega)
    have hs : spot = none := by simpa [Addr.add] using World.cell?_spot h0
    subst hs
    refine ⟨b, off, rfl, fun j u hu => ?_⟩
    rw [List.getElem?_map, List.getElem?_take] at hu
    split at hu
    · rename_i hj
      have hj2 : j < zs.length := by omega
      have := hc j hj2
      rw [List.getElem?_eq_getElem hj2] at hu
      simp at hu
      have e : (⟨b, off, none⟩ : Addr).add j = ⟨b, off + j, none⟩ := by unfold Addr.add; split <;> simp_all
      rw [e, List.getD_eq_getElem?_getD, List.getElem?_eq_getElem hj2] at this
      rw [this, ← hu]; rfl
    · cases hu
theorem IsRow.wf {k : IntKind} {w : World} {a : Option Addr} {len cap : Nat} {zs : List Int} (h : IsRow k w a len cap zs) : ∀ n ∈ zs.take len, (Lit.int k n).wf = true := by
  rcases h with ⟨rfl, rfl, rfl, rfl⟩ | ⟨x, rfl, h1, _, hz, hc, hw⟩
  · simp
  · exact fun n hn => hw n (List.mem_of_mem_take hn)
theorem Ints.drewN {k : IntKind} {w : World} {A : Option Addr} {n : Nat} {xs : List Int} (h : Ints k w A n xs) (q : Nat) : Ints k (w.drewN q) A n xs := h

/-- what a call returns that hands out a new slice of runes -/
def NewInts (k : IntKind) (w : World) (xs : List Int) (e : Ending) (w' : World) : Prop :=
  ∃ A n c, e = .returned (.slice A n c) ∧ Ints k w' A n xs ∧ n ≤ c ∧ c ≤ 9223372036854775807 ∧ Below w.heap.size w w'
theorem NewInts.of_own {k : IntKind} {w w' : World} {xs : List Int} {v : Value} {n base : Nat} {t : TypeId} (h : w'.ownsRow base t 1 v n (xs.map (Value.int k))) (hb : Below w.heap.size w w') : NewInts k w xs (.returned v) w' := by
  rcases id h with ⟨h1, ⟨rfl, rfl⟩ | ⟨g, cap, cur, rfl, _, _, hn, hc, _⟩⟩
  · exact ⟨none, 0, 0, rfl, Sl.of_own h, by omega, by omega, hb⟩
  · exact ⟨_, n, cap, rfl, Sl.of_own h, hn, hc, hb⟩

/-- the cells of spans -/
def spanCells (l : List (Int × Int)) : List Value := l.flatMap fun p => [.int .i64 p.1, .int .i64 p.2]
theorem spanCells_length (l : List (Int × Int)) : (spanCells l).length = l.length * 2 := by
  induction l with
  | nil => rfl
  | cons p l ih => simp [spanCells] at *; omega
theorem spanCells_append (l m : List (Int × Int)) : spanCells (l ++ m) = spanCells l ++ spanCells m := by simp [spanCells]
theorem spanCells_at (l : List (Int × Int)) (j : Nat) (p : Int × Int) (h : l[j]? = some p) : (spanCells l)[j * 2]? = some (.int .i64 p.1) ∧ (spanCells l)[j * 2 + 1]? = some (.int .i64 p.2) := by
  induction l generalizing j with
  | nil => simp at h
  | cons q l ih =>
    cases j with
    | zero => simp at h; subst h; simp [spanCells]
    | succ j =>
      simp at h
      have e : spanCells (q :: l) = .int .i64 q.1 :: .int .i64 q.2 :: spanCells l := by simp [spanCells]
      rw [e, show (j + 1) * 2 = j * 2 + 1 + 1 from by omega]
      simpa using ih j h
/-- a slice of spans -/
def Spans (w : World) (A : Option Addr) (n : Nat) (l : List (Int × Int)) : Prop := Sl w 2 A n (spanCells l)
section
variable {w w' : World} {n : Nat} {A : Option Addr} {l : List (Int × Int)}
theorem Spans.len (h : Spans w A n l) : l.length = n := by have := Sl.len h; rw [spanCells_length] at this; omega
theorem Spans.at_ (h : Spans w A n l) {j : Nat} (hj : j < n) : ∃ b off p, A = some ⟨b, off, none⟩ ∧ l[j]? = some p ∧ w.cell? ⟨b, off + j * 2, none⟩ = some (.int .i64 p.1) ∧ w.cell? ⟨b, off + j * 2 + 1, none⟩ = some (.int .i64 p.2) := by
  obtain ⟨b, off, hA, hc⟩ := h.2 (by omega)
  have hl := h.len
  have hx : l[j]? = some (l[j]'(by omega)) := List.getElem?_eq_getElem (by omega)
  obtain ⟨h1, h2⟩ := spanCells_at l j _ hx
  exact ⟨b, off, _, hA, hx, hc _ _ h1, by rw [Nat.add_assoc]; exact hc _ _ h2⟩
theorem Spans.below (h : Spans w A n l) (hb : Below w.heap.size w w') : Spans w' A n l := Sl.below (B := 0) h hb
theorem Spans.alloc (h : Spans w A n l) (o : Obj) : Spans (w.alloc o) A n l := Sl.alloc h o
theorem Spans.drewN (h : Spans w A n l) (q : Nat) : Spans (w.drewN q) A n l := h
end
end Go.Proofs.Ytpmhdjiacgckjaa
end
section
namespace Go.Proofs.Ytpmhdjiacgckjaa
open Go.RowKit
set_option linter.unusedVariables false

theorem guardSpan : Try.prog.eqGuardType Try.prog.depth 52 = false := by kernel_rfl
theorem eqlSpan (x y : Int × Int) (b : Bool) (hb : decide (x = y) = b) (w : World) :
    (binOp .eql 52 (.agg #[.int .i64 x.1, .int .i64 x.2]) (.agg #[.int .i64 y.1, .int .i64 y.2])).run Try.prog w = .ok (.bool b) w := by
  have u3 := Try.underlying3
  have a3 := Try.isAgg3
  have z3 := Try.sizeOf3
  have hS : Try.prog.underlying 52 = some (.struct (Try.prog.fieldsOf 52)) := by kernel_rfl
  have hp : Try.prog.stoodInHeld 52 = false := by kernel_rfl
  rw [run_eql_struct, show (10000 : Nat) = 9999 + 1 from rfl, run_equalIn_agg w 9999 52 _ _ hS hp]
  simp only [Program.fieldsOf, Try.underlying52]
  obtain ⟨x1, x2⟩ := x
  obtain ⟨y1, y2⟩ := y
  subst hb
  go_simp
  by_cases h1 : x1 = y1 <;> by_cases h2 : x2 = y2 <;> simp [h1, h2]
theorem neqSpan (x y : Int × Int) (b : Bool) (hb : decide (x = y) = b) (w : World) :
    (binOp .neq 52 (.agg #[.int .i64 x.1, .int .i64 x.2]) (.agg #[.int .i64 y.1, .int .i64 y.2])).run Try.prog w = .ok (.bool (!b)) w := by
  have h := eqlSpan x y b hb w
  rw [run_eql_struct] at h
  rw [run_neq_struct]
  generalize (Op.equalIn 10000 52 (.agg #[.int .i64 x.1, .int .i64 x.2]) (.agg #[.int .i64 y.1, .int .i64 y.2])).run Try.prog w = r at h
  cases r with
  | ok a w1 => simp at h; obtain ⟨rfl, rfl⟩ := h; simp
  | halt h1 w1 => simp at h

theorem Same_any (A B : Option Addr) (n c m d : Nat) (xs ys : List (Int × Int)) (w : World) (h : Spans w A n xs) (h' : Spans w B m ys) (hn : n ≤ 9223372036854775807) (hm : m ≤ 9223372036854775807) :
    Drawn Try.prog 21 #[.slice A n c, .slice B m d] w (.bool (decide (xs = ys))) := by
  have H := Lib.hid h
  have H' := Lib.hid h'
  clear h h'
  have hg := guardSpan
  unfold Drawn
  by_cases hnm : n = m
  · subst hnm
    go_enter Try.func21, Try.ntmps21
    go_wp2_with fail
    go_loopw [5] (fun i wr => ∃ k q : Nat, wr = w.drewN q ∧ k ≤ n ∧ i = .int .i64 k ∧ Hid (xs.take k = ys.take k)) (fun i _ => n - (intOf i).toNat)
    case atStart => exact ⟨0, 0, rfl, Nat.zero_le _, rfl, rfl⟩
    case round =>
      obtain ⟨k, q, rfl, hk, rfl, hal⟩ := hrel
      by_cases hlt : k < n
      · obtain ⟨b, off, x, rfl, hx, hc1, hc2⟩ := H.out.at_ hlt
        obtain ⟨b', off', y, rfl, hy, hd1, hd2⟩ := H'.out.at_ hlt
        have HX := Lib.hid hx; clear hx
        have HY := Lib.hid hy; clear hy
        by_cases hxy : x = y
        · have hne := neqSpan x y true (by simpa using hxy)
          have HE := Lib.hid hxy; clear hxy
          go_wp2_with fail
          go_quiet (fail)
          go_wp2_with fail
          go_roundw
          case rel => exact ⟨k + 1, _, rfl, by omega, by go_num, by unfold Hid; rw [take_snoc? HX.out, take_snoc? HY.out, hal.out, HE.out]⟩
          case measure => simp [intOf]; omega
        · have hne := neqSpan x y false (by simpa using hxy)
          have HE := Lib.hid hxy; clear hxy
          go_wp2_with fail
          go_quiet (fail)
          go_wp2_with fail
          go_ret
          refine ⟨ret_bool ?_, _, World.drewN_drewN _ _ _⟩
          symm
          rw [decide_eq_false_iff_not]
          rintro rfl
          have := HX.out.symm.trans HY.out
          exact HE.out (by simpa using this)
      · have hlt2 : decide (k < n) = false := by simpa using hlt
        go_wp2_with fail
        go_ret
        refine ⟨ret_bool ?_, _, rfl⟩
        symm
        rw [decide_eq_true_eq]
        have := hal.out
        rwa [List.take_of_length_le (by have := H.out.len; omega), List.take_of_length_le (by have := H'.out.len; omega)] at this
  · have h1 : ((n : Int) == (m : Int)) = false := by simp; omega
    have h2 : ((n : Int) != (m : Int)) = true := by simp; omega
    have HN := Lib.hid hnm
    clear hnm
    go_enter Try.func21, Try.ntmps21
    go_wp2_with fail
    go_ret
    refine ⟨ret_bool ?_, 0, rfl⟩
    symm
    rw [decide_eq_false_iff_not]
    rintro rfl
    exact HN.out (H.out.len.symm.trans H'.out.len)

/-- what a call returns that hands out a new slice of spans -/
def NewSpans (w : World) (l : List (Int × Int)) (e : Ending) (w' : World) : Prop :=
  ∃ A n c, e = .returned (.slice A n c) ∧ Spans w' A n l ∧ n ≤ c ∧ c ≤ 9223372036854775807 ∧ Below w.heap.size w w'
theorem NewSpans.lit {w : World} {l : List (Int × Int)} (hl : l.length ≤ 1000) (t : TypeId) (n : Nat) (hn : n = l.length) (cs : Array Value) (hcs : cs.toList = spanCells l) :
    NewSpans w l (.returned (.slice (some ⟨w.heap.size, 0, none⟩) n n)) (w.alloc (.cells cs t)) := by
  subst hn
  refine ⟨_, _, _, rfl, ⟨by rw [spanCells_length], fun _ => ⟨_, _, rfl, fun j u hu => ?_⟩⟩, Nat.le_refl _, by omega, (Below.refl _ w).alloc (Nat.le_refl _) _⟩
  have hb : (w.alloc (.cells cs t)).heap[w.heap.size]? = some (.cells cs t (0, 0)) := heap_alloc_new w _
  simp only [World.cell?, hb]
  rw [← hcs] at hu
  simpa using hu
theorem NewSpans.nil_ (w : World) : NewSpans w [] (.returned (.slice none 0 0)) w := ⟨_, _, _, rfl, Sl.nil_ _ _ _, Nat.le_refl _, by omega, Below.refl _ _⟩
end Go.Proofs.Ytpmhdjiacgckjaa
end
section
namespace Go.Proofs.Ytpmhdjiacgckjaa
open Go.RowKit
set_option linter.unusedVariables false

abbrev Sp := Int × Int
/-- is a number in a list of spans? -/
def InS : List Sp → Int → Prop
  | [], _ => False
  | p :: l, x => (p.1 ≤ x ∧ x ≤ p.2) ∨ InS l x
/-- .. and one of the numbers that sets have -/
def Mem (l : List Sp) (x : Int) : Prop := -1073741824 ≤ x ∧ x ≤ 1073741824 ∧ InS l x
/-- rising, apart by one at least, behind a number -/
def PlainF : Int → List Sp → Prop
  | _, [] => True
  | a, p :: l => a + 1 < p.1 ∧ p.1 ≤ p.2 ∧ p.2 ≤ 1073741824 ∧ PlainF p.2 l
def Plain (l : List Sp) : Prop := PlainF (-1073741826) l
/-- the plain list of a set -/
def Rep (l : List Sp) (S : Int → Prop) : Prop := Plain l ∧ ∀ x, InS l x ↔ S x

theorem InS_append (l m : List Sp) (x : Int) : InS (l ++ m) x ↔ InS l x ∨ InS m x := by
  induction l with
  | nil => simp [InS]
  | cons p l ih => simp [InS, ih, or_assoc]
theorem InS_of_mem {l : List Sp} {p : Sp} (h : p ∈ l) {x : Int} (h1 : p.1 ≤ x) (h2 : x ≤ p.2) : InS l x := by
  induction l with
  | nil => cases h
  | cons q l ih =>
    rcases List.mem_cons.1 h with rfl | h
    · exact .inl ⟨h1, h2⟩
    · exact .inr (ih h)
theorem InS_iff (l : List Sp) (x : Int) : InS l x ↔ ∃ p ∈ l, p.1 ≤ x ∧ x ≤ p.2 := by
  induction l with
  | nil => simp [InS]
  | cons p l ih => simp [InS, ih]
theorem PlainF.low {a : Int} {l : List Sp} (h : PlainF a l) {x : Int} (hx : InS l x) : a + 1 < x := by
  induction l generalizing a with
  | nil => cases hx
  | cons p l ih =>
    obtain ⟨h1, h2, h3, h4⟩ := h
    rcases hx with hx | hx
    · omega
    · have := ih h4 hx; omega
theorem PlainF.high {a : Int} {l : List Sp} (h : PlainF a l) {x : Int} (hx : InS l x) : x ≤ 1073741824 := by
  induction l generalizing a with
  | nil => cases hx
  | cons p l ih =>
    obtain ⟨h1, h2, h3, h4⟩ := h
    rcases hx with hx | hx
    · omega
    · exact ih h4 hx
theorem Plain.low {l : List Sp} (h : Plain l) {x : Int} (hx : InS l x) : -1073741824 ≤ x := by have := PlainF.low h hx; omega
theorem Plain.mem {l : List Sp} (h : Plain l) (x : Int) : Mem l x ↔ InS l x := ⟨fun hx => hx.2.2, fun hx => ⟨h.low hx, PlainF.high h hx, hx⟩⟩
theorem PlainF.mono {a b : Int} {l : List Sp} (h : PlainF a l) (hb : b ≤ a) : PlainF b l := by
  cases l with
  | nil => trivial
  | cons p l => obtain ⟨h1, h2⟩ := h; exact ⟨by omega, h2⟩

theorem PlainF.unique {a : Int} {l m : List Sp} (hl : PlainF a l) (hm : PlainF a m) (h : ∀ x, InS l x ↔ InS m x) : l = m := by
  induction l generalizing a m with
  | nil =>
    cases m with
    | nil => rfl
    | cons q m => exact absurd ((h q.1).2 (.inl ⟨by omega, hm.2.1⟩)) (by simp [InS])
  | cons p l ih =>
    cases m with
    | nil => exact absurd ((h p.1).1 (.inl ⟨by omega, hl.2.1⟩)) (by simp [InS])
    | cons q m =>
      obtain ⟨a1, a2, a3, a4⟩ := hl
      obtain ⟨b1, b2, b3, b4⟩ := hm
      have e1 : p.1 = q.1 := by
        have h1 := (h p.1).1 (.inl ⟨by omega, a2⟩)
        have h2 := (h q.1).2 (.inl ⟨by omega, b2⟩)
        have g1 : q.1 ≤ p.1 := by
          rcases h1 with h1 | h1
          · exact h1.1
          · have := b4.low h1; omega
        have g2 : p.1 ≤ q.1 := by
          rcases h2 with h2 | h2
          · exact h2.1
          · have := a4.low h2; omega
        omega
      have e2 : p.2 = q.2 := by
        have g1 : ¬ p.2 < q.2 := fun g => by
          rcases (h (p.2 + 1)).2 (.inl ⟨by omega, by omega⟩) with h1 | h1
          · omega
          · have := a4.low h1; omega
        have g2 : ¬ q.2 < p.2 := fun g => by
          rcases (h (q.2 + 1)).1 (.inl ⟨by omega, by omega⟩) with h1 | h1
          · omega
          · have := b4.low h1; omega
        omega
      have e : p = q := Prod.ext e1 e2
      subst e
      rw [ih a4 b4 fun x => ?_]
      constructor
      · intro hx
        have := a4.low hx
        rcases (h x).1 (.inr hx) with h1 | h1
        · omega
        · exact h1
      · intro hx
        have := b4.low hx
        rcases (h x).2 (.inr hx) with h1 | h1
        · omega
        · exact h1
theorem Rep.unique {l m : List Sp} {S T : Int → Prop} (h : Rep l S) (k : Rep m T) (hST : ∀ x, S x ↔ T x) : l = m :=
  PlainF.unique h.1 k.1 fun x => by rw [h.2, k.2, hST]
theorem Rep.congr {l : List Sp} {S T : Int → Prop} (h : Rep l S) (hST : ∀ x, S x ↔ T x) : Rep l T := ⟨h.1, fun x => (h.2 x).trans (hST x)⟩
theorem Rep.self {l : List Sp} (h : Plain l) : Rep l (Mem l) := ⟨h, fun x => (h.mem x).symm⟩

/-- one span more behind the last -/
theorem PlainF.snoc {a : Int} {l : List Sp} {q : Sp} (h : PlainF a l) (hq : a + 1 < q.1) (hl : ∀ p ∈ l, p.2 + 1 < q.1) (h2 : q.1 ≤ q.2) (h3 : q.2 ≤ 1073741824) : PlainF a (l ++ [q]) := by
  induction l generalizing a with
  | nil => exact ⟨hq, h2, h3, trivial⟩
  | cons p l ih =>
    obtain ⟨a1, a2, a3, a4⟩ := h
    exact ⟨a1, a2, a3, ih a4 (hl p (by simp)) fun r hr => hl r (by simp [hr])⟩
theorem PlainF.init {a : Int} {l m : List Sp} (h : PlainF a (l ++ m)) : PlainF a l := by
  induction l generalizing a with
  | nil => trivial
  | cons p l ih => obtain ⟨a1, a2, a3, a4⟩ := h; exact ⟨a1, a2, a3, ih a4⟩
theorem PlainF.last {a : Int} {l : List Sp} {q : Sp} (h : PlainF a (l ++ [q])) : a + 1 < q.1 ∧ (∀ p ∈ l, p.2 + 1 < q.1) ∧ q.1 ≤ q.2 ∧ q.2 ≤ 1073741824 := by
  induction l generalizing a with
  | nil => obtain ⟨a1, a2, a3, _⟩ := h; exact ⟨a1, by simp, a2, a3⟩
  | cons p l ih =>
    obtain ⟨a1, a2, a3, a4⟩ := h
    obtain ⟨b1, b2, b3, b4⟩ := ih a4
    refine ⟨by omega, fun r hr => ?_, b3, b4⟩
    rcases List.mem_cons.1 hr with rfl | hr
    · omega
    · exact b2 r hr
theorem PlainF.tail {a : Int} {p : Sp} {l : List Sp} (h : PlainF a (p :: l)) : PlainF p.2 l := h.2.2.2

/-- how many numbers -/
def cnt (l : List Sp) : Int := (l.map fun p => p.2 - p.1 + 1).sum
/-- as a Bool, for a list that is written out -/
def plainB : Int → List Sp → Bool
  | _, [] => true
  | a, p :: l => decide (a + 1 < p.1) && decide (p.1 ≤ p.2) && decide (p.2 ≤ 1073741824) && plainB p.2 l
theorem plainB_iff (a : Int) (l : List Sp) : plainB a l = true ↔ PlainF a l := by
  induction l generalizing a with
  | nil => simp [plainB, PlainF]
  | cons p l ih => simp [plainB, PlainF, ih, and_assoc]
end Go.Proofs.Ytpmhdjiacgckjaa
end
section
namespace Go.Proofs.Ytpmhdjiacgckjaa
open Go.RowKit Go.Sort Go.Lib
set_option linter.unusedVariables false

theorem isNaN64_any (x : Int) : Pure Try.prog 78 #[.int .i64 x] (.bool false) := by
  intro w
  go_enter Try.func78, Try.ntmps78
  go_wp2
  go_ret
  exact ⟨ret_bool (by simp), rfl⟩
theorem Compare64_any (x y : Int) : Pure Try.prog 65 #[.int .i64 x, .int .i64 y] (.int .i64 (cmpI x y)) := by
  intro w
  rcases Int.lt_trichotomy x y with h | h | h
  · have e : cmpI x y = -1 := by simp [cmpI, h]
    rw [e]
    go_enter Try.func65, Try.ntmps65
    go_wp2_with (go_at_call 78; refine ((isNaN64_any _).out _).mono ?_; rintro e w' ⟨rfl, rfl⟩)
    go_ret
    exact ⟨rfl, rfl⟩
  · have e : cmpI x y = 0 := by simp [cmpI, h]
    rw [e]
    subst h
    go_enter Try.func65, Try.ntmps65
    go_wp2_with (go_at_call 78; refine ((isNaN64_any _).out _).mono ?_; rintro e w' ⟨rfl, rfl⟩)
    go_ret
    exact ⟨rfl, rfl⟩
  · have e : cmpI x y = 1 := by simp [cmpI, h]; omega
    rw [e]
    have h2 : ¬ x < y := by omega
    go_enter Try.func65, Try.ntmps65
    go_wp2_with (go_at_call 78; refine ((isNaN64_any _).out _).mono ?_; rintro e w' ⟨rfl, rfl⟩)
    go_ret
    exact ⟨rfl, rfl⟩

def encSp (x : Sp) : List Value := [.int .i64 x.1, .int .i64 x.2]
theorem flat_sp (l : List Sp) : (flatK encSp 2 l.toArray).toList = spanCells l := by
  apply List.ext_getElem?
  intro t
  by_cases ht : t < l.length * 2
  · have h1 : l[t / 2]? = some (l[t / 2]'(by omega)) := List.getElem?_eq_getElem (by omega)
    obtain ⟨a, b⟩ := spanCells_at l _ _ h1
    have e : (flatK encSp 2 l.toArray).toList[t]? = some ((encSp (l[t / 2]'(by omega)))[t % 2]!) := by
      rw [Array.getElem?_toList, Array.getElem?_eq_getElem (by simpa using ht)]
      simp [flatK, show t / 2 < l.length by omega]
    rw [e]
    rcases Nat.mod_two_eq_zero_or_one t with m | m
    · have e2 : (spanCells l)[t]? = _ := (congrArg (fun k => (spanCells l)[k]?) (show t = t / 2 * 2 by omega)).trans a
      rw [e2]; simp [encSp, m]
    · have e2 : (spanCells l)[t]? = _ := (congrArg (fun k => (spanCells l)[k]?) (show t = t / 2 * 2 + 1 by omega)).trans b
      rw [e2]; simp [encSp, m]
  · rw [List.getElem?_eq_none (by simp; omega), List.getElem?_eq_none (by rw [spanCells_length]; omega)]

theorem closure_any (x y : Sp) (W : World) : Calls Try.prog 64 #[.agg #[.int .i64 x.1, .int .i64 x.2], .agg #[.int .i64 y.1, .int .i64 y.2]] W fun e w' => e = .returned (.int .i64 (cmpI x.1 y.1)) ∧ ∃ q os', w' = grow (W.drewN q) os' := by
  go_enter Try.func64, Try.ntmps64
  go_wp2_with (go_at_call 65; refine ((Compare64_any _ _).out _).mono ?_; rintro e w' ⟨rfl, rfl⟩)
  go_ret
  exact ⟨rfl, 0, _, by rw [alloc_eq_grow, alloc_eq_grow, grow_grow]; rfl⟩

theorem ltLo (x y : Sp) : Proofs.ltOf (fun x y : Sp => cmpI x.1 y.1) x y = decide (x.1 < y.1) := by
  unfold Proofs.ltOf cmpI
  by_cases h1 : x.1 < y.1
  · simp [h1]
  · by_cases h2 : y.1 < x.1 <;> simp [h1, h2]
theorem swoLo : SWO (Proofs.ltOf fun x y : Sp => cmpI x.1 y.1) where
  irrefl x := by rw [ltLo]; simp
  trans x y z h1 h2 := by rw [ltLo] at *; simp at *; omega
  ntrans x y z h1 h2 := by rw [ltLo] at *; simp at *; omega

theorem take_put (cur : Array Value) (l : List Sp) (h : l.length * 2 ≤ cur.size) : (putCells id 0 (flatK encSp 2 l.toArray) cur).toList.take (l.length * 2) = spanCells l := by
  rw [← flat_sp l]
  apply List.ext_getElem?
  intro j
  by_cases hj : j < l.length * 2
  · rw [List.getElem?_take_of_lt hj, Array.getElem?_toList, Array.getElem?_toList]
    have : j < (flatK encSp 2 l.toArray).size := by simpa using hj
    simp [putCells, hj, show j < cur.size by omega, getElem!_pos]
  · rw [List.getElem?_take_eq_none (by omega), List.getElem?_eq_none (by simp; omega)]

theorem grown_sorted {w : World} {g n : Nat} {os : Array Obj} (d : Array Sp) : w.grownBy (Proofs.sortWorldK encSp 2 w g 0 n d os) (some g) := by
  refine ⟨rfl, rfl, rfl, by simp [Proofs.sortWorldK, putRowK], fun k hk hne => ?_⟩
  unfold Proofs.sortWorldK
  rw [heap_grow_old _ _ (by simpa [putRowK] using hk)]
  have : g ≠ k := fun e => hne (by rw [e])
  simp [putRowK, putRow, mapBlock, Sort.ahead, Array.getElem?_modify, this]

theorem SortSpans_any (base g cap : Nat) (l : List Sp) (w : World) (h : w.ownsRow base 52 2 (.slice (some ⟨g, 0, none⟩) l.length cap) l.length (spanCells l)) (hn : l.length < 1099511627776) :
    Calls Try.prog 63 #[.slice (some ⟨g, 0, none⟩) l.length cap, .func (.func 64) #[] #[]] w fun e w' => e = .returned (.tuple #[]) ∧
      ∃ l' : List Sp, l'.length = l.length ∧ l'.Perm l ∧ l'.Pairwise (fun p q => p.1 ≤ q.1) ∧ w'.ownsRow base 52 2 (.slice (some ⟨g, 0, none⟩) l.length cap) l.length (spanCells l') ∧ w.grownBy w' (some g) := by
  have eg : ∀ args w, (callFunc 64 args).run Try.prog w = .ok (.enter 64 args) w := enters_of Try.func64 (by kernel_rfl) rfl
  have hsh : ∃ cur, base ≤ g ∧ w.heap[g]? = some (.cells cur 52 (0, 0)) ∧ l.length ≤ cap ∧ cap ≤ maxLen ∧ cur.size = cap * 2 ∧ cur.toList.take (l.length * 2) = spanCells l := by
    rcases h.2 with ⟨e0, _⟩ | ⟨g', cap', cur, e0, hb, hg, hn, hm, hs, ht⟩
    · cases e0
    · injection e0 with e1 _ e3
      injection e1 with e1
      injection e1 with e1
      subst e1; subst e3
      exact ⟨cur, hb, hg, hn, hm, hs, ht⟩
  obtain ⟨cur, hb, hg, hc, hm, hs, ht⟩ := hsh
  have hlt : g < w.heap.size := (Array.getElem?_eq_some_iff.1 hg).1
  have hH : HoldsK encSp 2 w g 0 l.toArray := by
    intro j hj
    have hj' : j < l.length * 2 := by simpa using hj
    refine ⟨?_, by simp [World.frozen?, hg]⟩
    have h1 : (cur.toList.take (l.length * 2))[j]? = (flatK encSp 2 l.toArray).toList[j]? := by rw [ht, flat_sp]
    rw [List.getElem?_take_of_lt hj', Array.getElem?_toList, Array.getElem?_toList, Array.getElem?_eq_getElem hj] at h1
    simp only [World.cell?, hg, Nat.zero_add]
    simp only [Option.isSome_none, Bool.false_eq_true, if_false]
    rw [h1, getElem!_pos _ j hj]
    rfl
  have hcon := Proofs.AnyQ.slices_SortFunc Try.sortSpan 2 Try.isAgg52 Try.sizeOf52 encSp (fun _ => rfl) (fun x v hv => by simp [encSp] at hv; rcases hv with rfl | rfl <;> rfl) (fun x y : Sp => cmpI x.1 y.1) swoLo 64 #[] g 0 cap l.toArray w eg
    (fun _ _ _ _ x y => closure_any x y _) hH hlt (by simp; omega)
  refine Calls.mono hcon ?_
  rintro e w' ⟨rfl, d', n, os, hp, hso, rfl⟩
  have hsz : d'.size = l.length := by simpa using hp.1
  refine ⟨rfl, d'.toList, by simpa using hsz, ?_, ?_, ?_, grown_sorted d'⟩
  · have := hp.2.2
    rw [show (l.toArray.extract 0 l.toArray.size).toList = l by simp] at this
    rw [show (d'.extract 0 l.toArray.size).toList = d'.toList by simp [← hsz]] at this
    exact this
  · rw [List.pairwise_iff_getElem]
    intro i j hi hj hij
    have := hso i j (by omega) hij (by simp at hj ⊢; omega)
    rw [ltLo, getElem!_pos d' i (by simpa using hi), getElem!_pos d' j (by simpa using hj)] at this
    simp at this ⊢
    exact this
  · refine ⟨by rw [spanCells_length]; simp [hsz], .inr ⟨g, cap, putCells id 0 (flatK encSp 2 d') cur, rfl, hb, ?_, hc, hm, ?_, ?_⟩⟩
    · unfold Proofs.sortWorldK
      rw [heap_grow_old _ _ (by simpa [putRowK] using hlt)]
      simp [putRowK, putRow, mapBlock, Sort.ahead, Array.getElem?_modify, hg, onCells]
    · simpa [putCells] using hs
    · have := take_put cur d'.toList (by simp [hsz]; omega)
      simpa [hsz] using this
end Go.Proofs.Ytpmhdjiacgckjaa
end
section
namespace Go.Proofs.Ytpmhdjiacgckjaa
open Go.RowKit
set_option linter.unusedVariables false

/-- the numbers of spans are ints -/
def SpW (l : List Sp) : Prop := ∀ p ∈ l, (-9223372036854775808 ≤ p.1 ∧ p.1 ≤ 9223372036854775807) ∧ (-9223372036854775808 ≤ p.2 ∧ p.2 ≤ 9223372036854775807)
theorem drop_mem {α : Type} {l : List α} {k : Nat} {x : α} (h : l[k]? = some x) : x ∈ l := List.mem_of_getElem? h

set_option maxHeartbeats 1000000 in
theorem Check_any (A : Option Addr) (n c : Nat) (l : List Sp) (w : World) (h : Spans w A n l) (hn : n ≤ 9223372036854775806) :
    Gives Try.prog 22 #[.slice A n c] w (.bool (plainB (-1073741826) l)) := by
  have H := Lib.hid h
  clear h
  unfold Gives
  go_enter Try.func22, Try.ntmps22
  go_wp2_with fail
  go_loopw [3, 8] (fun la i wr => ∃ (k : Nat) (a : Int), k ≤ n ∧ -1073741826 ≤ a ∧ a ≤ 1073741824 ∧ i = .int .i64 k ∧ la = .int .i64 a ∧ Spans wr A n l ∧ Below w.heap.size w wr ∧ Hid (plainB a (l.drop k) = plainB (-1073741826) l)) (fun _ i _ => n - (intOf i).toNat)
  case atStart => exact ⟨0, _, Nat.zero_le _, by omega, by omega, rfl, rfl, H.out, Below.refl _ _, rfl⟩
  case round =>
    obtain ⟨k, a, hk, ha1, ha2, rfl, rfl, hS, hb, hal⟩ := hrel
    have HB := Lib.hid hb
    have HS := Lib.hid hS
    clear hb hS
    by_cases hlt : k < n
    · obtain ⟨b, off, p, rfl, hx, hc1, hc2⟩ := HS.out.at_ hlt
      have HX := Lib.hid (drop_cons? hx)
      clear hx
      go_wp2_with fail
      all_goals first
        | (go_ret
           refine ⟨ret_bool ?_, HB.out.alloc HB.out.size _⟩
           rw [eq_comm, ← hal.out, HX.out, ← Bool.not_eq_true, plainB_iff]
           rintro ⟨a1, a2, a3, _⟩
           omega)
        | (go_roundw
           case rel =>
             refine ⟨k + 1, p.2, by omega, by omega, by omega, by go_num, rfl, HS.out.alloc _, HB.out.alloc HB.out.size _, ?_⟩
             unfold Hid
             rw [← hal.out, HX.out]
             simp only [plainB]
             rw [decide_eq_true (by omega), decide_eq_true (by omega), decide_eq_true (by omega)]
             rfl
           case measure => simp [intOf]; omega)
    · go_wp2_with fail
      go_ret
      refine ⟨ret_bool ?_, HB.out⟩
      rw [← hal.out, List.drop_of_length_le (by have := HS.out.len; omega)]
      rfl
/-- as a Bool -/
def memB (l : List Sp) (x : Int) : Bool := l.any fun p => decide (p.1 ≤ x) && decide (x ≤ p.2)
theorem memB_iff (l : List Sp) (x : Int) : memB l x = true ↔ InS l x := by
  induction l with
  | nil => simp [memB, InS]
  | cons p l ih => simp only [memB, List.any_cons, InS, Bool.or_eq_true, Bool.and_eq_true, decide_eq_true_eq] at *; rw [ih]
def hasB (l : List Sp) (x : Int) : Bool := decide (-1073741824 ≤ x) && decide (x ≤ 1073741824) && memB l x
theorem hasB_iff (l : List Sp) (x : Int) : hasB l x = true ↔ Mem l x := by simp [hasB, Mem, memB_iff, and_assoc]
theorem memB_drop (l : List Sp) (k : Nat) (p : Sp) (x : Int) (h : l.drop k = p :: l.drop (k + 1)) : memB (l.drop k) x = (decide (p.1 ≤ x) && decide (x ≤ p.2) || memB (l.drop (k + 1)) x) := by
  rw [h]; rfl

set_option maxHeartbeats 1000000 in
theorem Has_any (A : Option Addr) (n c : Nat) (l : List Sp) (x : Int) (w : World) (h : Spans w A n l) (hn : n ≤ 9223372036854775806) :
    Gives Try.prog 24 #[.slice A n c, .int .i64 x] w (.bool (hasB l x)) := by
  have H := Lib.hid h
  clear h
  unfold Gives
  by_cases hx : x < -1073741824 ∨ 1073741824 < x
  · have e : hasB l x = false := by rw [← Bool.not_eq_true, hasB_iff]; rintro ⟨h1, h2, _⟩; omega
    rw [e]
    rcases hx with hx | hx
    · go_enter Try.func24, Try.ntmps24
      go_wp2_with fail
      go_ret
      exact ⟨rfl, Below.refl _ _⟩
    · have hx2 : ¬ x < -1073741824 := by omega
      go_enter Try.func24, Try.ntmps24
      go_wp2_with fail
      go_ret
      exact ⟨rfl, Below.refl _ _⟩
  have hx1 : ¬ x < -1073741824 := by omega
  have hx2 : ¬ 1073741824 < x := by omega
  have e : hasB l x = memB l x := by unfold hasB; rw [decide_eq_true (by omega), decide_eq_true (by omega)]; rfl
  rw [e]
  clear hx e
  go_enter Try.func24, Try.ntmps24
  go_wp2_with fail
  go_loopw [15] (fun i wr => ∃ k : Nat, k ≤ n ∧ i = .int .i64 k ∧ Spans wr A n l ∧ Below w.heap.size w wr ∧ Hid (memB (l.drop k) x = memB l x)) (fun i _ => n - (intOf i).toNat)
  case atStart => exact ⟨0, Nat.zero_le _, rfl, H.out, Below.refl _ _, rfl⟩
  case round =>
    obtain ⟨k, hk, rfl, hS, hb, hal⟩ := hrel
    have HB := Lib.hid hb
    have HS := Lib.hid hS
    clear hb hS
    by_cases hlt : k < n
    · obtain ⟨b, off, p, rfl, hx, hc1, hc2⟩ := HS.out.at_ hlt
      have HX := Lib.hid (memB_drop l k p x (drop_cons? hx))
      clear hx
      go_wp2_with fail
      all_goals first
        | (go_ret
           refine ⟨ret_bool ?_, HB.out.alloc HB.out.size _⟩
           rw [← hal.out, HX.out, decide_eq_true (by omega), decide_eq_true (by omega)]
           rfl)
        | (go_roundw
           case rel =>
             refine ⟨k + 1, by omega, by go_num, HS.out.alloc _, HB.out.alloc HB.out.size _, ?_⟩
             unfold Hid
             rw [← hal.out, HX.out]
             first
               | (rw [decide_eq_false (by omega)]; rfl)
               | (rw [decide_eq_false (p := x ≤ p.2) (by omega), Bool.and_false]; rfl)
           case measure => simp [intOf]; omega)
    · go_wp2_with fail
      go_ret
      refine ⟨ret_bool ?_, HB.out⟩
      rw [← hal.out, List.drop_of_length_le (by have := HS.out.len; omega)]
      rfl
theorem hasB_drop (l : List Sp) (k : Nat) (p : Sp) (x : Int) (h : l.drop k = p :: l.drop (k + 1)) : (hasB (l.drop k) x = true) ↔ ((p.1 ≤ x ∧ x ≤ p.2 ∧ -1073741824 ≤ x ∧ x ≤ 1073741824) ∨ hasB (l.drop (k + 1)) x = true) := by
  rw [h]
  simp only [hasB_iff, Mem, InS]
  constructor
  · rintro ⟨h1, h2, h3 | h3⟩
    · exact .inl ⟨h3.1, h3.2, h1, h2⟩
    · exact .inr ⟨h1, h2, h3⟩
  · rintro (⟨h1, h2, h3, h4⟩ | ⟨h1, h2, h3⟩)
    · exact ⟨h3, h4, .inl ⟨h1, h2⟩⟩
    · exact ⟨h1, h2, .inr h3⟩
set_option maxHeartbeats 1000000 in
theorem rHas_any (A : Option Addr) (n c : Nat) (l : List Sp) (x : Int) (w : World) (h : Spans w A n l) (hn : n ≤ 9223372036854775806) :
    Calls Try.prog 15 #[.slice A n c, .int .i64 x] w fun e w' => e = .returned (.bool (hasB l x)) ∧ w = w' := by
  have H := Lib.hid h
  clear h
  go_enter Try.func15, Try.ntmps15
  go_wp2_with fail
  go_loop [5] (fun i => ∃ k : Nat, k ≤ n ∧ i = .int .i64 k ∧ Hid (hasB (l.drop k) x = hasB l x)) (fun i => n - (intOf i).toNat)
  case atStart => exact ⟨0, Nat.zero_le _, rfl, rfl⟩
  case round =>
    obtain ⟨k, hk, rfl, hal⟩ := hrel
    by_cases hlt : k < n
    · obtain ⟨b, off, p, rfl, hx, hc1, hc2⟩ := H.out.at_ hlt
      have HX := Lib.hid (hasB_drop l k p x (drop_cons? hx))
      clear hx
      go_wp2_with fail
      all_goals first
        | (go_ret
           refine ⟨ret_bool ?_, rfl⟩
           rw [← hal.out, eq_comm, HX.out]
           exact .inl ⟨by omega, by omega, by omega, by omega⟩)
        | (go_round
           case rel =>
             refine ⟨k + 1, by omega, by go_num, ?_⟩
             unfold Hid
             rw [← hal.out]
             rw [Bool.eq_iff_iff, HX.out]
             exact ⟨fun g => .inr g, fun g => g.resolve_left (by omega)⟩
           case measure => simp [intOf]; omega)
    · go_wp2_with fail
      go_ret
      refine ⟨ret_bool ?_, rfl⟩
      rw [← hal.out, List.drop_of_length_le (by have := H.out.len; omega)]
      simp [hasB, memB]
end Go.Proofs.Ytpmhdjiacgckjaa
end
section
namespace Go.Proofs.Ytpmhdjiacgckjaa
open Go.RowKit
set_option linter.unusedVariables false

theorem one1 {x : Value} (h : x.oneCell' = true) : ∀ u ∈ [x], u.oneCell' = true := by intro u hu; simp at hu; subst hu; exact h
theorem one2 {x y : Value} (h : x.oneCell' = true) (k : y.oneCell' = true) : ∀ u ∈ [x, y], u.oneCell' = true := by
  intro u hu; simp at hu; rcases hu with rfl | rfl
  · exact h
  · exact k
/-- rising -/
def Rise (xs : List Int) : Prop := ∀ (i j : Nat) (x y : Int), i < j → xs[i]? = some x → xs[j]? = some y → x < y
theorem info3 : (Try.prog.info? 3).map (fun i => (i.zero, i.size, i.bytes)) = some (some (.int .i64 0), 1, 8) := by kernel_rfl
/-- the list with a number more at a place -/
def insAt (xs : List Int) (lo : Nat) (x : Int) : List Int := xs.take lo ++ x :: xs.drop lo
theorem insAt_get (xs : List Int) (lo : Nat) (x : Int) (h : lo ≤ xs.length) (j : Nat) : (insAt xs lo x)[j]? = if j < lo then xs[j]? else if j = lo then some x else xs[j - 1]? := by
  unfold insAt
  rw [List.getElem?_append]
  simp only [List.length_take, Nat.min_eq_left h]
  split
  · rw [List.getElem?_take, if_pos (by assumption)]
  · rename_i h1
    split
    · rename_i h2; subst h2; simp
    · rename_i h2
      rw [show j - lo = (j - lo - 1) + 1 from by omega, List.getElem?_cons_succ, List.getElem?_drop]
      congr 1; omega
theorem insAt_rise (xs : List Int) (lo : Nat) (x : Int) (h : lo ≤ xs.length) (hr : Rise xs) (h1 : ∀ i y, i < lo → xs[i]? = some y → y < x) (h2 : ∀ i y, lo ≤ i → xs[i]? = some y → x < y) : Rise (insAt xs lo x) := by
  intro i j a b hij ha hb
  rw [insAt_get xs lo x h] at ha hb
  split at ha
  · split at hb
    · exact hr i j a b hij ha hb
    · split at hb
      · cases hb; exact h1 i a (by assumption) ha
      · have := h1 i a (by assumption) ha
        have := h2 (j - 1) b (by omega) hb
        omega
  · split at ha
    · cases ha
      rw [if_neg (by omega), if_neg (by omega)] at hb
      exact h2 (j - 1) b (by omega) hb
    · rw [if_neg (by omega), if_neg (by omega)] at hb
      exact hr (i - 1) (j - 1) a b (by omega) ha hb
theorem insAt_mem (xs : List Int) (lo : Nat) (x y : Int) : y ∈ insAt xs lo x ↔ y = x ∨ y ∈ xs := by
  unfold insAt
  rw [List.mem_append, List.mem_cons]
  conv => rhs; rw [← List.take_append_drop lo xs, List.mem_append]
  constructor
  · rintro (h | h | h)
    · exact .inr (.inl h)
    · exact .inl h
    · exact .inr (.inr h)
  · rintro (h | h | h)
    · exact .inr (.inl h)
    · exact .inl h
    · exact .inr (.inr h)
theorem insAt_length (xs : List Int) (lo : Nat) (x : Int) (h : lo ≤ xs.length) : (insAt xs lo x).length = xs.length + 1 := by
  simp [insAt]; omega

/-- what put leaves -/
def PutPost (base : Nat) (w : World) (xs : List Int) (x : Int) (e : Ending) (w' : World) : Prop :=
  ∃ v' ys, e = .returned v' ∧ w'.ownsRow base 3 1 v' ys.length (ys.map (Value.int .i64)) ∧ Rise ys ∧ (∀ y, y ∈ ys ↔ y = x ∨ y ∈ xs) ∧ ys.length ≤ xs.length + 1 ∧ Below base w w'

set_option maxRecDepth 100000 in
set_option maxHeartbeats 2000000 in
theorem put_any (base : Nat) (v : Value) (xs : List Int) (x : Int) (w : World) (hown : w.ownsRow base 3 1 v xs.length (xs.map (Value.int .i64))) (hr : Rise xs) (hn : xs.length < 1073741824) (hbase : base ≤ w.heap.size) (hx0 : -9223372036854775808 ≤ x) (hx1 : x ≤ 9223372036854775807) :
    Calls Try.prog 62 #[v, .int .i64 x] w (PutPost base w xs x) := by
  obtain ⟨i0, hi, hz0, hz1, hz2⟩ := info_parts info3
  obtain ⟨A, c, rfl⟩ : ∃ A c, v = .slice A xs.length c := by
    rcases hown.2 with ⟨rfl, h0⟩ | ⟨g, cap, cur, rfl, _⟩
    · exact ⟨none, 0, by rw [h0]⟩
    · exact ⟨_, _, rfl⟩
  have HI : Hid (Ints .i64 w A xs.length xs) := Sl.of_own hown
  have HR := Lib.hid hr
  have HO := Lib.hid hown
  clear hr hown
  generalize hn0 : xs.length = n at *
  have HN := Lib.hid hn0
  clear hn0
  go_enter Try.func62, Try.ntmps62
  go_wp2_with fail
  go_loop [5, 6] (fun lo hi => ∃ a b : Nat, a ≤ b ∧ b ≤ n ∧ lo = .int .i64 a ∧ hi = .int .i64 b ∧ Hid (∀ i y, i < a → xs[i]? = some y → y < x) ∧ Hid (∀ i y, b ≤ i → xs[i]? = some y → x ≤ y)) (fun lo hi => (intOf hi).toNat - (intOf lo).toNat)
  case atStart => exact ⟨0, n, by omega, by omega, rfl, rfl, Lib.hid fun i y h => by omega, Lib.hid fun i y h hy => by have := (List.getElem?_eq_some_iff.1 hy).1; have := HN.out; omega⟩
  case round =>
  obtain ⟨a, b, hab, hb, rfl, rfl, hlo, hhi⟩ := hrel
  by_cases hlt : a < b
  · obtain ⟨g, off, y, rfl, hy, hc⟩ := HI.out.at_ (j := (a + b) / 2) (by omega)
    have HY := Lib.hid hy
    clear hy
    have hm0 : (a + b) / 2 < b := by omega
    have hm1 : a ≤ (a + b) / 2 := by omega
    go_wp2_with fail
    · go_round
      case rel =>
        refine ⟨(a + b) / 2 + 1, b, by omega, by omega, by go_num, rfl, Lib.hid fun i z hi hz => ?_, hhi⟩
        rcases Nat.lt_or_ge i ((a + b) / 2) with h | h
        · have := HR.out i _ z y h hz HY.out; omega
        · have : i = (a + b) / 2 := by omega
          subst this
          have := HY.out.symm.trans hz
          simp at this; omega
      case measure => simp [intOf]; omega
    · go_round
      case rel =>
        refine ⟨a, (a + b) / 2, by omega, by omega, rfl, by go_num, hlo, Lib.hid fun i z hi hz => ?_⟩
        rcases Nat.lt_or_ge ((a + b) / 2) i with h | h
        · have := HR.out _ i y z h HY.out hz; omega
        · have : i = (a + b) / 2 := by omega
          subst this
          have := HY.out.symm.trans hz
          simp at this; omega
      case measure => simp [intOf]; omega
  obtain rfl : a = b := by omega
  clear hlt hab
  have hfin : Hid (∀ (W : World) (A' : Option Addr) (c' : Nat), W.ownsRow base 3 1 (.slice A' (n + 1) c') (n + 1) ((insAt xs a x).map (Value.int .i64)) → (∀ i y, a ≤ i → xs[i]? = some y → x < y) → Below base w W → PutPost base w xs x (.returned (.slice A' (n + 1) c')) W) := by
    refine Lib.hid fun W A' c' hW hgt hbW => ⟨_, insAt xs a x, rfl, ?_, insAt_rise xs a x (by have := HN.out; omega) HR.out hlo.out hgt, insAt_mem xs a x, ?_, hbW⟩
    · rw [insAt_length xs a x (by have := HN.out; omega), HN.out]; exact hW
    · rw [insAt_length xs a x (by have := HN.out; omega)]; omega
  by_cases han : a < n
  · obtain ⟨g, off, y, rfl, hy, hc⟩ := HI.out.at_ han
    have HY := Lib.hid hy
    clear hy
    by_cases hxy : y = x
    · have hb1 : (y == x) = true := by simpa using hxy
      have HE := Lib.hid hxy
      clear hxy
      go_wp2_with fail
      go_ret
      refine ⟨_, xs, rfl, by rw [HN.out]; exact HO.out, HR.out, fun z => ⟨fun h => .inr h, fun h => h.elim (fun e => by rw [e, ← HE.out]; exact List.mem_of_getElem? HY.out) id⟩, by omega, Below.refl _ _⟩
    · have hb1 : (y == x) = false := by simpa using hxy
      have hgt : Hid (∀ i z, a ≤ i → xs[i]? = some z → x < z) := by
        refine Lib.hid fun i z hi hz => ?_
        have h1 := hhi.out a y (Nat.le_refl _) HY.out
        rcases Nat.lt_or_ge a i with h | h
        · have := HR.out a i y z h HY.out hz; omega
        · have : i = a := by omega
          subst this
          have := HY.out.symm.trans hz
          simp at this; omega
      clear hxy
      go_wp2_with (at_builtin; go_must (refine wpList_push (w0 := w) rfl _ _ 58 rfl base 3 i0 (.int .i64 0) 1 8 Try.underlying58 hi hz0 hz1 hz2 rfl (by decide) HO.out rfl [.int .i64 0] _ rfl rfl (one1 rfl) (by omega) (by omega) hbase ?_); intro v' w2 hown2 hg2 _)
      obtain ⟨g2, cap2, rfl, hb2, hl2⟩ := hown2.form (by omega)
      have hbel := below_pushed (Below.refl base w) HO.out (Nat.le_refl _) hbase hg2
      have HO2 := Lib.hid hown2
      clear hown2 hg2 hc hb1
      go_wp2_with fail
      go_simp
      go_wp2_with fail
      go_loopw [8] (fun i wr => ∃ (q : Nat) (L : List Value), a ≤ q ∧ q ≤ n ∧ i = .int .i64 q ∧ wr.ownsRow base 3 1 (.slice (some ⟨g2, 0, none⟩) (n + 1) cap2) (n + 1) L ∧ Below base w wr ∧ Hid (∀ j, j < q → L[j]? = (xs[j]?).map (Value.int .i64)) ∧ Hid (∀ j, q < j → j ≤ n → L[j]? = (xs[j - 1]?).map (Value.int .i64))) (fun i _ => (intOf i).toNat)
      case atStart =>
        refine ⟨n, _, by omega, Nat.le_refl _, by go_num, HO2.out, hbel, Lib.hid fun j hj => ?_, Lib.hid fun j hj hj2 => by omega⟩
        rw [List.getElem?_append_left (by simp; have := HN.out; omega), List.getElem?_map]
      case round =>
      obtain ⟨q, L, hq, hqn, rfl, hL, hbel, hlow, hhigh⟩ := hrel
      have hLl := hL.1
      by_cases hqa : a < q
      · obtain ⟨q', rfl⟩ : ∃ q', q = q' + 1 := ⟨q - 1, by omega⟩
        obtain ⟨z, hz⟩ : ∃ z, xs[q']? = some z := ⟨_, List.getElem?_eq_getElem (by have := HN.out; omega)⟩
        have hd1 : wr.cell? ⟨g2, q', none⟩ = some (.int .i64 z) := by rw [hL.cellAt q' (by omega), hlow.out q' (by omega), hz]; rfl
        have hd2 : wr.cell? ⟨g2, q' + 1, none⟩ = some (L[q' + 1]'(by omega)) := by rw [hL.cellAt (q' + 1) (by omega)]; exact List.getElem?_eq_getElem (by omega)
        generalize L[q' + 1]'(by omega) = u0 at hd2
        have hf := hL.frozenAt (q' + 1)
        obtain ⟨hL2, _⟩ := hL.stored (q' + 1) (.int .i64 z)
        have hbel2 : Below base w (wr.setCell ⟨g2, q' + 1, none⟩ (.int .i64 z)) := hbel.setCell hb2 _
        have HL2 := Lib.hid hL2
        have HLL := Lib.hid hLl
        have HZ := Lib.hid hz
        clear hL hL2 hLl hz hbel
        go_wp2_with fail
        go_roundw
        case rel =>
          refine ⟨q', _, by omega, by omega, by go_num, HL2.out, hbel2, Lib.hid fun j hj => ?_, Lib.hid fun j hj hj2 => ?_⟩
          · rw [List.getElem?_set_ne (by omega)]; exact hlow.out j (by omega)
          · by_cases e : j = q' + 1
            · subst e
              rw [List.getElem?_set_self (by have := HLL.out; omega), Nat.add_sub_cancel, HZ.out]; rfl
            · rw [List.getElem?_set_ne (by omega)]; exact hhigh.out j (by omega) hj2
        case measure => simp [intOf]; try omega
      · obtain rfl : q = a := by omega
        have hd2 : wr.cell? ⟨g2, q, none⟩ = some (L[q]'(by omega)) := by rw [hL.cellAt q (by omega)]; exact List.getElem?_eq_getElem (by omega)
        generalize L[q]'(by omega) = u0 at hd2
        have hf := hL.frozenAt q
        obtain ⟨hL2, _⟩ := hL.stored q (.int .i64 x)
        have hbel2 : Below base w (wr.setCell ⟨g2, q, none⟩ (.int .i64 x)) := hbel.setCell hb2 _
        have HL2 := Lib.hid hL2
        have HLL := Lib.hid hLl
        clear hL hL2 hLl hbel
        go_wp2_with fail
        go_ret
        refine hfin.out _ _ _ ?_ hgt.out hbel2
        have e : L.set q (.int .i64 x) = (insAt xs q x).map (Value.int .i64) := by
          apply List.ext_getElem?
          intro j
          have hln := HN.out
          have hLn := HLL.out
          rw [List.getElem?_map, insAt_get xs q x (by omega)]
          by_cases h1 : j < q
          · rw [if_pos h1, List.getElem?_set_ne (by omega)]; exact hlow.out j h1
          · rw [if_neg h1]
            by_cases h2 : j = q
            · rw [if_pos h2, h2, List.getElem?_set_self (by omega)]; rfl
            · rw [if_neg h2, List.getElem?_set_ne (by omega)]
              by_cases h3 : j ≤ n
              · exact hhigh.out j (by omega) h3
              · rw [List.getElem?_eq_none (by omega), List.getElem?_eq_none (by omega)]; rfl
        rw [← e]
        exact HL2.out
  · have hgt : Hid (∀ i z, a ≤ i → xs[i]? = some z → x < z) := by
      refine Lib.hid fun i z hi hz => ?_
      have := (List.getElem?_eq_some_iff.1 hz).1
      have := HN.out
      omega
    have hd0 : decide (a < n) = false := by simpa using han
    · go_wp2_with (at_builtin; go_must (refine wpList_push (w0 := w) rfl _ _ 58 rfl base 3 i0 (.int .i64 0) 1 8 Try.underlying58 hi hz0 hz1 hz2 rfl (by decide) HO.out rfl [.int .i64 0] _ rfl rfl (one1 rfl) (by omega) (by omega) hbase ?_); intro v' w2 hown2 hg2 _)
      obtain ⟨g2, cap2, rfl, hb2, hl2⟩ := hown2.form (by omega)
      have hbel := below_pushed (Below.refl base w) HO.out (Nat.le_refl _) hbase hg2
      have HO2 := Lib.hid hown2
      clear hown2 hg2
      go_wp2_with fail
      go_simp
      go_wp2_with fail
      go_loopw [8] (fun i wr => ∃ (q : Nat) (L : List Value), a ≤ q ∧ q ≤ n ∧ i = .int .i64 q ∧ wr.ownsRow base 3 1 (.slice (some ⟨g2, 0, none⟩) (n + 1) cap2) (n + 1) L ∧ Below base w wr ∧ Hid (∀ j, j < q → L[j]? = (xs[j]?).map (Value.int .i64)) ∧ Hid (∀ j, q < j → j ≤ n → L[j]? = (xs[j - 1]?).map (Value.int .i64))) (fun i _ => (intOf i).toNat)
      case atStart =>
        refine ⟨n, _, by omega, Nat.le_refl _, by go_num, HO2.out, hbel, Lib.hid fun j hj => ?_, Lib.hid fun j hj hj2 => by omega⟩
        rw [List.getElem?_append_left (by simp; have := HN.out; omega), List.getElem?_map]
      case round =>
      obtain ⟨q, L, hq, hqn, rfl, hL, hbel, hlow, hhigh⟩ := hrel
      have hLl := hL.1
      by_cases hqa : a < q
      · obtain ⟨q', rfl⟩ : ∃ q', q = q' + 1 := ⟨q - 1, by omega⟩
        obtain ⟨z, hz⟩ : ∃ z, xs[q']? = some z := ⟨_, List.getElem?_eq_getElem (by have := HN.out; omega)⟩
        have hd1 : wr.cell? ⟨g2, q', none⟩ = some (.int .i64 z) := by rw [hL.cellAt q' (by omega), hlow.out q' (by omega), hz]; rfl
        have hd2 : wr.cell? ⟨g2, q' + 1, none⟩ = some (L[q' + 1]'(by omega)) := by rw [hL.cellAt (q' + 1) (by omega)]; exact List.getElem?_eq_getElem (by omega)
        generalize L[q' + 1]'(by omega) = u0 at hd2
        have hf := hL.frozenAt (q' + 1)
        obtain ⟨hL2, _⟩ := hL.stored (q' + 1) (.int .i64 z)
        have hbel2 : Below base w (wr.setCell ⟨g2, q' + 1, none⟩ (.int .i64 z)) := hbel.setCell hb2 _
        have HL2 := Lib.hid hL2
        have HLL := Lib.hid hLl
        have HZ := Lib.hid hz
        clear hL hL2 hLl hz hbel
        exact absurd hqa (by omega)
      · obtain rfl : q = a := by omega
        have hd2 : wr.cell? ⟨g2, q, none⟩ = some (L[q]'(by omega)) := by rw [hL.cellAt q (by omega)]; exact List.getElem?_eq_getElem (by omega)
        generalize L[q]'(by omega) = u0 at hd2
        have hf := hL.frozenAt q
        obtain ⟨hL2, _⟩ := hL.stored q (.int .i64 x)
        have hbel2 : Below base w (wr.setCell ⟨g2, q, none⟩ (.int .i64 x)) := hbel.setCell hb2 _
        have HL2 := Lib.hid hL2
        have HLL := Lib.hid hLl
        clear hL hL2 hLl hbel
        go_wp2_with fail
        go_ret
        refine hfin.out _ _ _ ?_ hgt.out hbel2
        have e : L.set q (.int .i64 x) = (insAt xs q x).map (Value.int .i64) := by
          apply List.ext_getElem?
          intro j
          have hln := HN.out
          have hLn := HLL.out
          rw [List.getElem?_map, insAt_get xs q x (by omega)]
          by_cases h1 : j < q
          · rw [if_pos h1, List.getElem?_set_ne (by omega)]; exact hlow.out j h1
          · rw [if_neg h1]
            by_cases h2 : j = q
            · rw [if_pos h2, h2, List.getElem?_set_self (by omega)]; rfl
            · rw [if_neg h2, List.getElem?_set_ne (by omega)]
              by_cases h3 : j ≤ n
              · exact hhigh.out j (by omega) h3
              · rw [List.getElem?_eq_none (by omega), List.getElem?_eq_none (by omega)]; rfl
        rw [← e]
        exact HL2.out
end Go.Proofs.Ytpmhdjiacgckjaa
end
