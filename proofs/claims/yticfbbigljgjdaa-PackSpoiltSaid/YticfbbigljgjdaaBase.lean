/- Words and small lemmas that all walks of this seat use: slices as lists, hidden facts, taking one more element. Condition: none. -/
import Derived.Test.YticfbbigljgjdaaRows
import Derived.WalkKit
import Derived.ProofKit
import Derived.BigQuiet
import Derived.Deep.QuietTactic
import Derived.WalkSpells
import Derived.Lib.Hide
import Derived.Lib.OthersKept
import Derived.Lib.DecodeN
import Derived.Laws.OwnMore
import Derived.Deep.Draws
import Derived.Deep.AppendLies
import Derived.Maps.AppendAt
namespace Go.Proofs.Yticfbbigljgjdaa
open Go.RowKit
set_option linter.unusedVariables false

/-- the slice value '.slice A n _' holds the cells cs, 'size' cells an element -/
def Sl (w : World) (size : Nat) (A : Option Addr) (n : Nat) (cs : List Value) : Prop :=
  cs.length = n * size ∧ (0 < n → ∃ b off, A = some ⟨b, off, none⟩ ∧ ∀ j u, cs[j]? = some u → w.cell? ⟨b, off + j, none⟩ = some u)

theorem lt_of_cell {w : World} {b o : Nat} {u : Value} (h : w.cell? ⟨b, o, none⟩ = some u) : b < w.heap.size := World.block_lt_of_cell? w _ h

theorem lt_of_below {W w : World} {b o : Nat} {u : Value} (hb : Below W.heap.size W w) (h : W.cell? ⟨b, o, none⟩ = some u) : b < W.heap.size := lt_of_cell h

theorem own_shape {w : World} {base : Nat} {e : TypeId} {size : Nat} {v : Value} {n : Nat} {xs : List Value} (h : w.ownsRow base e size v n xs) : ∃ A c, v = .slice A n c := by
  rcases h.2 with ⟨rfl, rfl⟩ | ⟨g, cap, cur, rfl, _⟩
  · exact ⟨none, 0, rfl⟩
  · exact ⟨_, _, rfl⟩
theorem ownsRow_drewN {w : World} {base : Nat} {e : TypeId} {size : Nat} {v : Value} {n : Nat} {xs : List Value} (h : w.ownsRow base e size v n xs) (q : Nat) : (w.drewN q).ownsRow base e size v n xs := h

section
variable {w w' : World} {size n : Nat} {A : Option Addr} {cs : List Value}
theorem Sl.len (h : Sl w size A n cs) : cs.length = n * size := h.1
theorem Sl.nil_ (w : World) (size : Nat) (A : Option Addr) : Sl w size A 0 [] := ⟨by simp, fun h => absurd h (by omega)⟩
theorem Sl.keep (h : Sl w size A n cs) (hk : ∀ (p : Addr) u, w.cell? p = some u → w'.cell? p = some u) : Sl w' size A n cs :=
  ⟨h.1, fun hn => by
    obtain ⟨b, off, hA, hc⟩ := h.2 hn
    exact ⟨b, off, hA, fun j u hu => hk _ _ (hc j u hu)⟩⟩
theorem Sl.below {B : Nat} (h : Sl w size A n cs) (hb : Below w.heap.size w w') : Sl w' size A n cs :=
  h.keep fun p u hu => (hb.cell (World.block_lt_of_cell? w _ hu)).trans hu
theorem Sl.drew (h : Sl w size A n cs) : Sl w.drew size A n cs := h
theorem Sl.drewN (h : Sl w size A n cs) (k : Nat) : Sl (w.drewN k) size A n cs := h
theorem Sl.alloc (h : Sl w size A n cs) (o : Obj) : Sl (w.alloc o) size A n cs :=
  h.keep fun p u hu => (World.cell?_alloc_lt w o p (World.block_lt_of_cell? w _ hu)).trans hu
theorem Sl.of_own {base : Nat} {e : TypeId} {c : Nat} (h : w.ownsRow base e size (.slice A n c) n cs) : Sl w size A n cs := by
  refine ⟨h.1, fun hn => ?_⟩
  obtain ⟨g, cap, hv, _, hlt⟩ := h.form hn
  have hA : A = some ⟨g, 0, none⟩ := by injection hv
  subst hA
  refine ⟨g, 0, rfl, fun j u hu => ?_⟩
  have := h.cells (g := g) rfl j u hu
  have e : (⟨g, 0, none⟩ : Addr).add j = ⟨g, 0 + j, none⟩ := by unfold Addr.add; split <;> simp_all
  rw [e] at this
  exact this
/-- the first k elements -/
theorem Sl.take {k : Nat} (h : Sl w size A n cs) (hk : k ≤ n) : Sl w size A k (cs.take (k * size)) := by
  refine ⟨?_, fun hn => ?_⟩
  · rw [List.length_take, h.1]; exact Nat.min_eq_left (Nat.mul_le_mul_right _ hk)
  · obtain ⟨b, off, hA, hc⟩ := h.2 (by omega)
    refine ⟨b, off, hA, fun j u hu => hc j u ?_⟩
    rw [List.getElem?_take] at hu
    split at hu
    · exact hu
    · cases hu
end

/-- a slice of integers -/
def Ints (k : IntKind) (w : World) (A : Option Addr) (n : Nat) (xs : List Int) : Prop := Sl w 1 A n (xs.map (Value.int k))
section
variable {k : IntKind} {w w' : World} {n : Nat} {A : Option Addr} {xs : List Int}
theorem Ints.len (h : Ints k w A n xs) : xs.length = n := by have := Sl.len h; simpa using this
theorem Ints.at_ (h : Ints k w A n xs) {j : Nat} (hj : j < n) : ∃ b off x, A = some ⟨b, off, none⟩ ∧ xs[j]? = some x ∧ w.cell? ⟨b, off + j, none⟩ = some (.int k x) := by
  obtain ⟨b, off, hA, hc⟩ := h.2 (by omega)
  have hl := h.len
  have hx : xs[j]? = some (xs[j]'(by omega)) := List.getElem?_eq_getElem (by omega)
  exact ⟨b, off, _, hA, hx, hc j _ (by rw [List.getElem?_map, hx]; rfl)⟩
theorem Ints.below (h : Ints k w A n xs) (hb : Below w.heap.size w w') : Ints k w' A n xs := Sl.below (B := 0) h hb
theorem Ints.alloc (h : Ints k w A n xs) (o : Obj) : Ints k (w.alloc o) A n xs := Sl.alloc h o
theorem Ints.take (h : Ints k w A n xs) {m : Nat} (hm : m ≤ n) : Ints k w A m (xs.take m) := by
  have := Sl.take h hm
  rw [Nat.mul_one, ← List.map_take] at this
  exact this
end

theorem take_snoc? {α : Type} {xs : List α} {k : Nat} {x : α} (h : xs[k]? = some x) : xs.take (k + 1) = xs.take k ++ [x] := by
  rw [List.take_add_one, h]; rfl
theorem drop_cons? {α : Type} {xs : List α} {k : Nat} {x : α} (h : xs[k]? = some x) : xs.drop k = x :: xs.drop (k + 1) := by
  obtain ⟨hl, rfl⟩ := List.getElem?_eq_some_iff.1 h
  exact List.drop_eq_getElem_cons hl
def cmpI (x y : Int) : Int := if x < y then -1 else if y < x then 1 else 0
theorem ret_bool {a b : Bool} (h : a = b) : Ending.returned (.bool a) = .returned (.bool b) := by rw [h]
theorem ret_int {k : IntKind} {a b : Int} (h : a = b) : Ending.returned (.int k a) = .returned (.int k b) := by rw [h]

/-- a call that returns v and leaves the world alone -/
def Pure (P : Program) (f : FuncId) (args : Array Value) (v : Value) : Prop := ∀ w, Calls P f args w fun e w' => e = .returned v ∧ w = w'
theorem Pure.as {P : Program} {f : FuncId} {args : Array Value} {v v' : Value} (h : Pure P f args v) (hv : v = v') : Pure P f args v' := hv ▸ h
theorem pure_of {P : Program} {f : FuncId} {args : Array Value} {v v' : Value} (h : ∀ w, Calls P f args w fun e w' => e = .returned v ∧ w = w') (hv : v = v') : Pure P f args v' := hv ▸ h
theorem Pure.out {P : Program} {f : FuncId} {args : Array Value} {v : Value} (h : Pure P f args v) (w : World) : Calls P f args w fun e w' => e = .returned v ∧ w = w' := h w
/-- a call at one world that returns v and draws at most -/
def Drawn (P : Program) (f : FuncId) (args : Array Value) (w : World) (v : Value) : Prop := Calls P f args w fun e w' => e = .returned v ∧ ∃ n, w' = w.drewN n
/-- a call at one world that returns v; nothing that was there has changed -/
def Gives (P : Program) (f : FuncId) (args : Array Value) (w : World) (v : Value) : Prop := Calls P f args w fun e w' => e = .returned v ∧ Below w.heap.size w w'
theorem Gives.out {P : Program} {f : FuncId} {args : Array Value} {w : World} {v : Value} (h : Gives P f args w v) : Calls P f args w fun e w' => e = .returned v ∧ Below w.heap.size w w' := h
theorem Gives.as {P : Program} {f : FuncId} {args : Array Value} {w : World} {v v' : Value} (h : Gives P f args w v) (hv : v = v') : Gives P f args w v' := hv ▸ h
theorem Drawn.as {P : Program} {f : FuncId} {args : Array Value} {w : World} {v v' : Value} (h : Drawn P f args w v) (hv : v = v') : Drawn P f args w v' := hv ▸ h
theorem Drawn.out {P : Program} {f : FuncId} {args : Array Value} {w : World} {v : Value} (h : Drawn P f args w v) : Calls P f args w fun e w' => e = .returned v ∧ ∃ n, w' = w.drewN n := h
theorem below_drewN {B : Nat} {a w : World} (h : Below B a w) (n : Nat) : Below B a (w.drewN n) := ⟨h.os, h.tape, h.output, h.size, h.block⟩
theorem Drawn.gives {P : Program} {f : FuncId} {args : Array Value} {w : World} {v : Value} (h : Drawn P f args w v) : Gives P f args w v :=
  Calls.mono h fun e w' ⟨he, n, hw⟩ => ⟨he, by rw [hw]; exact below_drewN (Below.refl _ _) n⟩
theorem Pure.gives {P : Program} {f : FuncId} {args : Array Value} {v : Value} (h : Pure P f args v) (w : World) : Gives P f args w v :=
  Calls.mono (h w) fun e w' ⟨he, hw⟩ => ⟨he, by rw [← hw]; exact Below.refl _ _⟩

/-- a pure callee inside a region that draws its order -/
theorem Pure.quiet {P : Program} {f : FuncId} {args : Array Value} {v : Value} (h : Pure P f args v) {w : World} {n : Nat} :
    Calls P f args (w.drewN n) fun e w'' => e = .returned v ∧ ∃ m, w'' = w.drewN m :=
  (h (w.drewN n)).mono fun _ _ ⟨he, hm⟩ => ⟨he, n, hm.symm⟩
theorem Pure.quiet2 {P : Program} {f : FuncId} {args : Array Value} {v : Value} (h : Pure P f args v) {w : World} {a n : Nat} :
    Calls P f args (w.drewN (a + n)) fun e w'' => e = .returned v ∧ ∃ m, w'' = w.drewN (a + m) :=
  (h (w.drewN (a + n))).mono fun _ _ ⟨he, hm⟩ => ⟨he, n, hm.symm⟩
theorem Pure.quiet3 {P : Program} {f : FuncId} {args : Array Value} {v : Value} (h : Pure P f args v) {w : World} {a n : Nat} :
    Calls P f args (w.drewN (a + n)) fun e w'' => e = .returned v ∧ ∃ m, w'' = (w.drewN a).drewN m :=
  (h (w.drewN (a + n))).mono fun _ _ ⟨he, hm⟩ => ⟨he, n, by rw [World.drewN_drewN]; exact hm.symm⟩

theorem below_to {W a b : World} (h : Below W.heap.size W a) (k : Below a.heap.size a b) : Below W.heap.size W b := h.trans (k.mono h.size)

/-- 'out = append(out, x)': one element of 'size' cells, laid in a block of its own first -/
theorem wpList_push {P : Program} {w0 : World} {ops : Array Oper} {rest : List Oper} {o : Oper} {a : Act} {Q : Exit → Act → World → Prop} (hgd : o.guard = none) (s x : Operand) (t : TypeId)
    (ho : o.op = .call { callee := .builtin .append, args := #[s, x], argTypes := #[t, t] })
    (base : Nat) (e : TypeId) (i : TypeInfo) (z : Value) (size bytes : Nat) (ht : P.underlying t = some (.slice e)) (hi : P.info? e = some i) (hz : i.zero = some z)
    (hsize : i.size = size) (hby : i.bytes = bytes) (hzs : z.cells.size = size) (hsz : 0 < size)
    {v : Value} {n : Nat} {xs : List Value} (hown : w0.ownsRow base e size v n xs) (hs : a.eval s = v)
    (news : List Value) (e' : TypeId) (hx : a.eval x = .slice (some ⟨w0.heap.size, 0, none⟩) 1 1) (hl : news.length = size) (h1 : ∀ u ∈ news, u.oneCell' = true)
    (hn : n < 1099511627776) (hb : bytes ≤ 128) (hbase : base ≤ w0.heap.size)
    (h : ∀ v' w', w'.ownsRow base e size v' (n + 1) (xs ++ news) → (w0.alloc (.cells news.toArray e')).grownBy w' v.ownBlock → (v' = .slice none 0 0 ↔ v = .slice none 0 0 ∧ 1 = 0) → wpList P ops Q rest (a.put o.dst v') w') :
    wpList P ops Q (o :: rest) a (w0.alloc (.cells news.toArray e')) := by
  refine wpList_append_own _ hgd s x t ho base e i z size bytes ht hi hz hsize hby hzs hsz v n xs hs (hown.alloc _) ⟨w0.heap.size, 0, none⟩ 1 1 news hx (by omega) ?_ h1 (by unfold maxLen; omega) ?_ (by simp; omega) h
  · intro j u hu
    have e : (⟨w0.heap.size, 0, none⟩ : Addr).add j = ⟨w0.heap.size, 0 + j, none⟩ := by unfold Addr.add; split <;> simp_all
    rw [e]
    have hb : (w0.alloc (.cells news.toArray e')).heap[w0.heap.size]? = some (.cells news.toArray e' (0, 0)) := heap_alloc_new w0 _
    simp only [World.cell?, hb]
    simpa using hu
  · have : (n + 1) * bytes ≤ (n + 1) * 128 := Nat.mul_le_mul_left _ hb
    omega
theorem below_pushed {B : Nat} {W w0 w' : World} {o : Obj} {base : Nat} {e : TypeId} {size n : Nat} {v : Value} {xs : List Value} (hb : Below B W w0) (hown : w0.ownsRow base e size v n xs) (hB : B ≤ base) (hB' : B ≤ w0.heap.size)
    (hg : (w0.alloc o).grownBy w' v.ownBlock) : Below B W w' :=
  (hb.alloc hB' o).grown hg (by simp; omega) (fun k hk => Nat.le_trans hB (hown.lt k hk).1)

/-- what the frame tells of a slice of integers that came in -/
def IsRow (k : IntKind) (w : World) (a : Option Addr) (len cap : Nat) (zs : List Int) : Prop :=
  (a = none ∧ len = 0 ∧ cap = 0 ∧ zs = []) ∨
  ∃ x, a = some x ∧ len ≤ cap ∧ cap ≤ maxLen ∧ zs.length = cap ∧ (∀ i, i < zs.length → w.cell? (x.add i) = some (.int k (zs.getD i 0))) ∧ ∀ n ∈ zs, (Lit.int k n).wf = true
theorem IsRow.cap {k : IntKind} {w : World} {a : Option Addr} {len cap : Nat} {zs : List Int} (h : IsRow k w a len cap zs) : len ≤ cap ∧ cap ≤ 9223372036854775807 := by
  rcases h with ⟨_, rfl, rfl, _⟩ | ⟨x, _, h1, h2, _⟩
  · omega
  · exact ⟨h1, h2⟩
theorem IsRow.ints {k : IntKind} {w : World} {a : Option Addr} {len cap : Nat} {zs : List Int} (h : IsRow k w a len cap zs) : Ints k w a len (zs.take len) := by
  rcases h with ⟨rfl, rfl, rfl, rfl⟩ | ⟨x, rfl, h1, _, hz, hc, _⟩
  · exact Sl.nil_ _ _ _
  · refine ⟨by simp; omega, fun hn => ?_⟩
    obtain ⟨b, off, spot⟩ := x
    have h0 := hc 0 (by omega)
    have hs : spot = none := by simpa [Addr.add] using World.cell?_spot h0
    subst hs
    refine ⟨b, off, rfl, fun j u hu => ?_⟩
    rw [List.getElem?_map, List.getElem?_take] at hu
    split at hu
    · rename_i hj
      have hj2 : j < zs.length := by omega
      have := hc j hj2
      rw [List.getElem?_eq_getElem hj2] at hu
      simp at hu
      have e : (⟨b, off, none⟩ : Addr).add j = ⟨b, off + j, none⟩ := by unfold Addr.add; split <;> simp_all
      rw [e, List.getD_eq_getElem?_getD, List.getElem?_eq_getElem hj2] at this
      rw [this, ← hu]; rfl
    · cases hu
theorem IsRow.wf {k : IntKind} {w : World} {a : Option Addr} {len cap : Nat} {zs : List Int} (h : IsRow k w a len cap zs) : ∀ n ∈ zs.take len, (Lit.int k n).wf = true := by
  rcases h with ⟨rfl, rfl, rfl, rfl⟩ | ⟨x, rfl, h1, _, hz, hc, hw⟩
  · simp
  · exact fun n hn => hw n (List.mem_of_mem_take hn)
theorem Ints.drewN {k : IntKind} {w : World} {A : Option Addr} {n : Nat} {xs : List Int} (h : Ints k w A n xs) (q : Nat) : Ints k (w.drewN q) A n xs := h

/-- what a call returns that hands out a new slice of runes -/
def NewInts (k : IntKind) (w : World) (xs : List Int) (e : Ending) (w' : World) : Prop :=
  ∃ A n c, e = .returned (.slice A n c) ∧ Ints k w' A n xs ∧ n ≤ c ∧ c ≤ 9223372036854775807 ∧ Below w.heap.size w w'
theorem NewInts.of_own {k : IntKind} {w w' : World} {xs : List Int} {v : Value} {n base : Nat} {t : TypeId} (h : w'.ownsRow base t 1 v n (xs.map (Value.int k))) (hb : Below w.heap.size w w') : NewInts k w xs (.returned v) w' := by
  rcases id h with ⟨h1, ⟨rfl, rfl⟩ | ⟨g, cap, cur, rfl, _, _, hn, hc, _⟩⟩
  · exact ⟨none, 0, 0, rfl, Sl.of_own h, by omega, by omega, hb⟩
  · exact ⟨_, n, cap, rfl, Sl.of_own h, hn, hc, hb⟩

/-- the cells of spans -/
def spanCells (l : List (Int × Int)) : List Value := l.flatMap fun p => [.int .i64 p.1, .int .i64 p.2]
theorem spanCells_length (l : List (Int × Int)) : (spanCells l).length = l.length * 2 := by
  induction l with
  | nil => rfl
  | cons p l ih => simp [spanCells] at *; omega
theorem spanCells_append (l m : List (Int × Int)) : spanCells (l ++ m) = spanCells l ++ spanCells m := by simp [spanCells]
theorem spanCells_at (l : List (Int × Int)) (j : Nat) (p : Int × Int) (h : l[j]? = some p) : (spanCells l)[j * 2]? = some (.int .i64 p.1) ∧ (spanCells l)[j * 2 + 1]? = some (.int .i64 p.2) := by
  induction l generalizing j with
  | nil => simp at h
  | cons q l ih =>
    cases j with
    | zero => simp at h; subst h; simp [spanCells]
    | succ j =>
      simp at h
      have e : spanCells (q :: l) = .int .i64 q.1 :: .int .i64 q.2 :: spanCells l := by simp [spanCells]
      rw [e, show (j + 1) * 2 = j * 2 + 1 + 1 from by omega]
      simpa using ih j h
/-- a slice of spans -/
def Spans (w : World) (A : Option Addr) (n : Nat) (l : List (Int × Int)) : Prop := Sl w 2 A n (spanCells l)
section
variable {w w' : World} {n : Nat} {A : Option Addr} {l : List (Int × Int)}
theorem Spans.len (h : Spans w A n l) : l.length = n := by have := Sl.len h; rw [spanCells_length] at this; omega
theorem Spans.at_ (h : Spans w A n l) {j : Nat} (hj : j < n) : ∃ b off p, A = some ⟨b, off, none⟩ ∧ l[j]? = some p ∧ w.cell? ⟨b, off + j * 2, none⟩ = some (.int .i64 p.1) ∧ w.cell? ⟨b, off + j * 2 + 1, none⟩ = some (.int .i64 p.2) := by
  obtain ⟨b, off, hA, hc⟩ := h.2 (by omega)
  have hl := h.len
  have hx : l[j]? = some (l[j]'(by omega)) := List.getElem?_eq_getElem (by omega)
  obtain ⟨h1, h2⟩ := spanCells_at l j _ hx
  exact ⟨b, off, _, hA, hx, hc _ _ h1, by rw [Nat.add_assoc]; exact hc _ _ h2⟩
theorem Spans.below (h : Spans w A n l) (hb : Below w.heap.size w w') : Spans w' A n l := Sl.below (B := 0) h hb
theorem Spans.alloc (h : Spans w A n l) (o : Obj) : Spans (w.alloc o) A n l := Sl.alloc h o
theorem Spans.drewN (h : Spans w A n l) (q : Nat) : Spans (w.drewN q) A n l := h
end
end Go.Proofs.Yticfbbigljgjdaa
