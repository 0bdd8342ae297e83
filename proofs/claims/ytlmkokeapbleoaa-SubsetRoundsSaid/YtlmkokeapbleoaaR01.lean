/- Words and small lemmas that all walks of this seat use: slices as lists, hidden facts, taking one more element. Condition: none. The state of a walk: what is known of the slices at hand stays known. No function of the program in sight. Condition: none. Plain facts on tables as bytes: what is packed is read as it was; what is read is packed as it was; no beginning of it is one; one byte changed is told by the check. No program in sight. Condition: none. Words for slices of records and for tables in memory; what is right of a table, in plain words. No function of the program in sight. Condition: none. Contracts of part.bits, part.Right, part.Whole, part.Value and of umlautref03.Two, Bits, Right, Value. Condition: the numbers are ints. Contracts of term.small, outer, rising, numbers, plain and Right of bytes. Condition: the parts at hand are known. Contracts of umlautref04.small, Outer, Numbers, Right of bytes. Condition: the parts at hand are known. Contracts of umlautlaw12.right and box.right: may a term be asked of so many symbols? Condition: the term's parts are known. Contract of umlautref01.Same, two spans compared; new slices of spans. Condition: the slices that come in are no longer than an int can count. Plain facts on lists of spans as sets of whole numbers: a plain list is the only one of its set. No program in sight. Condition: none. Contracts of span.Check, span.Has, umlautref01.Has. Condition: the list is no longer than an int can count, its numbers are ints. Contracts of umlautref01.put and umlautref01.borders. Condition: lists shorter than 2^30. Contract of umlautref01.borders: the numbers at which something may begin or end, rising. Condition: lists of fewer than 2^20 spans, whose numbers are ints. The plain law of umlautref01.Make: between two borders all numbers are alike. No program in sight. Condition: none. Contract of umlautref01.Make: the plain list of two sets' union, of what they have in common, or of what the first has alone. Condition: lists of fewer than 2^20 spans, whose numbers are ints. The plain law of span.Norm: clipped spans, sorted by their lower ends and joined where they touch, are the plain list of the set; and what appending within a row does. No function of the program in sight. Condition: none. The plain laws of span.Meet, span.Minus and span.Count: what is in both of two plain lists, what lies between the spans of one, how many numbers. No program in sight. Condition: none. -/
import Derived.Test.YtlmkokeapbleoaaRows
import Derived.WalkKit
import Derived.ProofKit
import Derived.BigQuiet
import Derived.Deep.QuietTactic
import Derived.WalkSpells
import Derived.Lib.Hide
import Derived.Lib.OthersKept
import Derived.Lib.DecodeN
import Derived.Laws.OwnMore
import Derived.Deep.Draws
import Derived.Deep.AppendLies
import Derived.Maps.AppendAt
import Derived.Deep.RegionHeld3
import Derived.Deep.DeepCutAuto
import Derived.Laws.StructEq
import Derived.Deep.RegionWith
set_option maxRecDepth 100000
set_option maxHeartbeats 64000000
set_option linter.unusedVariables false
set_option linter.unusedSimpArgs false
section
namespace Go.Proofs.Ytlmkokeapbleoaa
open Go.RowKit
def Sl (w : World) (size : Nat) (A : Option Addr) (n : Nat) (cs : List Value) : Prop :=
  cs.length = n * size ∧ (0 < n → ∃ b off, A = some ⟨b, off, none⟩ ∧ ∀ j u, cs[j]? = some u → w.cell? ⟨b, off + j, none⟩ = some u)
theorem lt_of_cell {w : World} {b o : Nat} {u : Value} (h : w.cell? ⟨b, o, none⟩ = some u) : b < w.heap.size := World.block_lt_of_cell? w _ h
theorem own_shape {w : World} {base : Nat} {e : TypeId} {size : Nat} {v : Value} {n : Nat} {xs : List Value} (h : w.ownsRow base e size v n xs) : ∃ A c, v = .slice A n c := by
  rcases h.2 with ⟨rfl, rfl⟩ | ⟨g, cap, cur, rfl, _⟩
  · exact ⟨none, 0, rfl⟩
  · exact ⟨_, _, rfl⟩
theorem ownsRow_drewN {w : World} {base : Nat} {e : TypeId} {size : Nat} {v : Value} {n : Nat} {xs : List Value} (h : w.ownsRow base e size v n xs) (q : Nat) : (w.drewN q).ownsRow base e size v n xs := h
section
variable {w w' : World} {size n : Nat} {A : Option Addr} {cs : List Value}
theorem Sl.len (h : Sl w size A n cs) : cs.length = n * size := h.1
theorem Sl.nil_ (w : World) (size : Nat) (A : Option Addr) : Sl w size A 0 [] := ⟨by simp, fun h => absurd h (by omega)⟩
theorem Sl.keep (h : Sl w size A n cs) (hk : ∀ (p : Addr) u, w.cell? p = some u → w'.cell? p = some u) : Sl w' size A n cs :=
  ⟨h.1, fun hn => by
    obtain ⟨b, off, hA, hc⟩ := h.2 hn
    exact ⟨b, off, hA, fun j u hu => hk _ _ (hc j u hu)⟩⟩
theorem Sl.below {B : Nat} (h : Sl w size A n cs) (hb : Below w.heap.size w w') : Sl w' size A n cs :=
  h.keep fun p u hu => (hb.cell (World.block_lt_of_cell? w _ hu)).trans hu
theorem Sl.drew (h : Sl w size A n cs) : Sl w.drew size A n cs := h
theorem Sl.drewN (h : Sl w size A n cs) (k : Nat) : Sl (w.drewN k) size A n cs := h
theorem Sl.alloc (h : Sl w size A n cs) (o : Obj) : Sl (w.alloc o) size A n cs :=
  h.keep fun p u hu => (World.cell?_alloc_lt w o p (World.block_lt_of_cell? w _ hu)).trans hu
theorem Sl.of_own {base : Nat} {e : TypeId} {c : Nat} (h : w.ownsRow base e size (.slice A n c) n cs) : Sl w size A n cs := by
  refine ⟨h.1, fun hn => ?_⟩
  obtain ⟨g, cap, hv, _, hlt⟩ := h.form hn
  have hA : A = some ⟨g, 0, none⟩ := by injection hv
  subst hA
  refine ⟨g, 0, rfl, fun j u hu => ?_⟩
  have := h.cells (g := g) rfl j u hu
  have e : (⟨g, 0, none⟩ : Addr).add j = ⟨g, 0 + j, none⟩ := by unfold Addr.add; split <;> simp_all
  rw [e] at this
  exact this
theorem Sl.take {k : Nat} (h : Sl w size A n cs) (hk : k ≤ n) : Sl w size A k (cs.take (k * size)) := by
  refine ⟨?_, fun hn => ?_⟩
  · rw [List.length_take, h.1]; exact Nat.min_eq_left (Nat.mul_le_mul_right _ hk)
  · obtain ⟨b, off, hA, hc⟩ := h.2 (by omega)
    refine ⟨b, off, hA, fun j u hu => hc j u ?_⟩
    rw [List.getElem?_take] at hu
    split at hu
    · exact hu
    · cases hu
end
def Ints (k : IntKind) (w : World) (A : Option Addr) (n : Nat) (xs : List Int) : Prop := Sl w 1 A n (xs.map (Value.int k))
section
variable {k : IntKind} {w w' : World} {n : Nat} {A : Option Addr} {xs : List Int}
theorem Ints.len (h : Ints k w A n xs) : xs.length = n := by have := Sl.len h; simpa using this
theorem Ints.at_ (h : Ints k w A n xs) {j : Nat} (hj : j < n) : ∃ b off x, A = some ⟨b, off, none⟩ ∧ xs[j]? = some x ∧ w.cell? ⟨b, off + j, none⟩ = some (.int k x) := by
  obtain ⟨b, off, hA, hc⟩ := h.2 (by omega)
  have hl := h.len
  have hx : xs[j]? = some (xs[j]'(by omega)) := List.getElem?_eq_getElem (by omega)
  exact ⟨b, off, _, hA, hx, hc j _ (by rw [List.getElem?_map, hx]; rfl)⟩
theorem Ints.below (h : Ints k w A n xs) (hb : Below w.heap.size w w') : Ints k w' A n xs := Sl.below (B := 0) h hb
theorem Ints.alloc (h : Ints k w A n xs) (o : Obj) : Ints k (w.alloc o) A n xs := Sl.alloc h o
theorem Ints.take (h : Ints k w A n xs) {m : Nat} (hm : m ≤ n) : Ints k w A m (xs.take m) := by
  have := Sl.take h hm
  rw [Nat.mul_one, ← List.map_take] at this
  exact this
end
theorem take_snoc? {α : Type} {xs : List α} {k : Nat} {x : α} (h : xs[k]? = some x) : xs.take (k + 1) = xs.take k ++ [x] := by
  rw [List.take_add_one, h]; rfl
theorem drop_cons? {α : Type} {xs : List α} {k : Nat} {x : α} (h : xs[k]? = some x) : xs.drop k = x :: xs.drop (k + 1) := by
  obtain ⟨hl, rfl⟩ := List.getElem?_eq_some_iff.1 h
  exact List.drop_eq_getElem_cons hl
def cmpI (x y : Int) : Int := if x < y then -1 else if y < x then 1 else 0
theorem ret_bool {a b : Bool} (h : a = b) : Ending.returned (.bool a) = .returned (.bool b) := by rw [h]
def Pure (P : Program) (f : FuncId) (args : Array Value) (v : Value) : Prop := ∀ w, Calls P f args w fun e w' => e = .returned v ∧ w = w'
theorem Pure.out {P : Program} {f : FuncId} {args : Array Value} {v : Value} (h : Pure P f args v) (w : World) : Calls P f args w fun e w' => e = .returned v ∧ w = w' := h w
def Drawn (P : Program) (f : FuncId) (args : Array Value) (w : World) (v : Value) : Prop := Calls P f args w fun e w' => e = .returned v ∧ ∃ n, w' = w.drewN n
def Gives (P : Program) (f : FuncId) (args : Array Value) (w : World) (v : Value) : Prop := Calls P f args w fun e w' => e = .returned v ∧ Below w.heap.size w w'
theorem Gives.out {P : Program} {f : FuncId} {args : Array Value} {w : World} {v : Value} (h : Gives P f args w v) : Calls P f args w fun e w' => e = .returned v ∧ Below w.heap.size w w' := h
theorem Drawn.out {P : Program} {f : FuncId} {args : Array Value} {w : World} {v : Value} (h : Drawn P f args w v) : Calls P f args w fun e w' => e = .returned v ∧ ∃ n, w' = w.drewN n := h
theorem below_drewN {B : Nat} {a w : World} (h : Below B a w) (n : Nat) : Below B a (w.drewN n) := ⟨h.os, h.tape, h.output, h.size, h.block⟩
theorem Pure.quiet {P : Program} {f : FuncId} {args : Array Value} {v : Value} (h : Pure P f args v) {w : World} {n : Nat} :
    Calls P f args (w.drewN n) fun e w'' => e = .returned v ∧ ∃ m, w'' = w.drewN m :=
  (h (w.drewN n)).mono fun _ _ ⟨he, hm⟩ => ⟨he, n, hm.symm⟩
theorem below_to {W a b : World} (h : Below W.heap.size W a) (k : Below a.heap.size a b) : Below W.heap.size W b := h.trans (k.mono h.size)
theorem wpList_push {P : Program} {w0 : World} {ops : Array Oper} {rest : List Oper} {o : Oper} {a : Act} {Q : Exit → Act → World → Prop} (hgd : o.guard = none) (s x : Operand) (t : TypeId)
    (ho : o.op = .call { callee := .builtin .append, args := #[s, x], argTypes := #[t, t] })
    (base : Nat) (e : TypeId) (i : TypeInfo) (z : Value) (size bytes : Nat) (ht : P.underlying t = some (.slice e)) (hi : P.info? e = some i) (hz : i.zero = some z)
    (hsize : i.size = size) (hby : i.bytes = bytes) (hzs : z.cells.size = size) (hsz : 0 < size)
    {v : Value} {n : Nat} {xs : List Value} (hown : w0.ownsRow base e size v n xs) (hs : a.eval s = v)
    (news : List Value) (e' : TypeId) (hx : a.eval x = .slice (some ⟨w0.heap.size, 0, none⟩) 1 1) (hl : news.length = size) (h1 : ∀ u ∈ news, u.oneCell' = true)
    (hn : n < 1099511627776) (hb : bytes ≤ 128) (hbase : base ≤ w0.heap.size)
    (h : ∀ v' w', w'.ownsRow base e size v' (n + 1) (xs ++ news) → (w0.alloc (.cells news.toArray e')).grownBy w' v.ownBlock → (v' = .slice none 0 0 ↔ v = .slice none 0 0 ∧ 1 = 0) → wpList P ops Q rest (a.put o.dst v') w') :
    wpList P ops Q (o :: rest) a (w0.alloc (.cells news.toArray e')) := by
  refine wpList_append_own _ hgd s x t ho base e i z size bytes ht hi hz hsize hby hzs hsz v n xs hs (hown.alloc _) ⟨w0.heap.size, 0, none⟩ 1 1 news hx (by omega) ?_ h1 (by unfold maxLen; omega) ?_ (by simp; omega) h
  · intro j u hu
    have e : (⟨w0.heap.size, 0, none⟩ : Addr).add j = ⟨w0.heap.size, 0 + j, none⟩ := by unfold Addr.add; split <;> simp_all
    rw [e]
    have hb : (w0.alloc (.cells news.toArray e')).heap[w0.heap.size]? = some (.cells news.toArray e' (0, 0)) := heap_alloc_new w0 _
    simp only [World.cell?, hb]
    simpa using hu
  · have : (n + 1) * bytes ≤ (n + 1) * 128 := Nat.mul_le_mul_left _ hb
    omega
theorem below_pushed {B : Nat} {W w0 w' : World} {o : Obj} {base : Nat} {e : TypeId} {size n : Nat} {v : Value} {xs : List Value} (hb : Below B W w0) (hown : w0.ownsRow base e size v n xs) (hB : B ≤ base) (hB' : B ≤ w0.heap.size)
    (hg : (w0.alloc o).grownBy w' v.ownBlock) : Below B W w' :=
  (hb.alloc hB' o).grown hg (by simp; omega) (fun k hk => Nat.le_trans hB (hown.lt k hk).1)
def IsRow (k : IntKind) (w : World) (a : Option Addr) (len cap : Nat) (zs : List Int) : Prop :=
  (a = none ∧ len = 0 ∧ cap = 0 ∧ zs = []) ∨
  ∃ x, a = some x ∧ len ≤ cap ∧ cap ≤ maxLen ∧ zs.length = cap ∧ (∀ i, i < zs.length → w.cell? (x.add i) = some (.int k (zs.getD i 0))) ∧ ∀ n ∈ zs, (Lit.int k n).wf = true
theorem IsRow.cap {k : IntKind} {w : World} {a : Option Addr} {len cap : Nat} {zs : List Int} (h : IsRow k w a len cap zs) : len ≤ cap ∧ cap ≤ 9223372036854775807 := by
  rcases h with ⟨_, rfl, rfl, _⟩ | ⟨x, _, h1, h2, _⟩
  · omega
  · exact ⟨h1, h2⟩
theorem IsRow.wf {k : IntKind} {w : World} {a : Option Addr} {len cap : Nat} {zs : List Int} (h : IsRow k w a len cap zs) : ∀ n ∈ zs.take len, (Lit.int k n).wf = true := by
  rcases h with ⟨rfl, rfl, rfl, rfl⟩ | ⟨x, rfl, h1, _, hz, hc, hw⟩
  · simp
  · exact fun n hn => hw n (List.mem_of_mem_take hn)
theorem Ints.drewN {k : IntKind} {w : World} {A : Option Addr} {n : Nat} {xs : List Int} (h : Ints k w A n xs) (q : Nat) : Ints k (w.drewN q) A n xs := h
def NewInts (k : IntKind) (w : World) (xs : List Int) (e : Ending) (w' : World) : Prop :=
  ∃ A n c, e = .returned (.slice A n c) ∧ Ints k w' A n xs ∧ n ≤ c ∧ c ≤ 9223372036854775807 ∧ Below w.heap.size w w'
theorem NewInts.of_own {k : IntKind} {w w' : World} {xs : List Int} {v : Value} {n base : Nat} {t : TypeId} (h : w'.ownsRow base t 1 v n (xs.map (Value.int k))) (hb : Below w.heap.size w w') : NewInts k w xs (.returned v) w' := by
  rcases id h with ⟨h1, ⟨rfl, rfl⟩ | ⟨g, cap, cur, rfl, _, _, hn, hc, _⟩⟩
  · exact ⟨none, 0, 0, rfl, Sl.of_own h, by omega, by omega, hb⟩
  · exact ⟨_, n, cap, rfl, Sl.of_own h, hn, hc, hb⟩
def spanCells (l : List (Int × Int)) : List Value := l.flatMap fun p => [.int .i64 p.1, .int .i64 p.2]
theorem spanCells_length (l : List (Int × Int)) : (spanCells l).length = l.length * 2 := by
  induction l with
  | nil => rfl
  | cons p l ih => simp [spanCells] at *; omega
theorem spanCells_append (l m : List (Int × Int)) : spanCells (l ++ m) = spanCells l ++ spanCells m := by simp [spanCells]
theorem spanCells_at (l : List (Int × Int)) (j : Nat) (p : Int × Int) (h : l[j]? = some p) : (spanCells l)[j * 2]? = some (.int .i64 p.1) ∧ (spanCells l)[j * 2 + 1]? = some (.int .i64 p.2) := by
  induction l generalizing j with
  | nil => simp at h
  | cons q l ih =>
    cases j with
    | zero => simp at h; subst h; simp [spanCells]
    | succ j =>
      simp at h
      have e : spanCells (q :: l) = .int .i64 q.1 :: .int .i64 q.2 :: spanCells l := by simp [spanCells]
      rw [e, show (j + 1) * 2 = j * 2 + 1 + 1 from by omega]
      simpa using ih j h
def Spans (w : World) (A : Option Addr) (n : Nat) (l : List (Int × Int)) : Prop := Sl w 2 A n (spanCells l)
section
variable {w w' : World} {n : Nat} {A : Option Addr} {l : List (Int × Int)}
theorem Spans.len (h : Spans w A n l) : l.length = n := by have := Sl.len h; rw [spanCells_length] at this; omega
theorem Spans.at_ (h : Spans w A n l) {j : Nat} (hj : j < n) : ∃ b off p, A = some ⟨b, off, none⟩ ∧ l[j]? = some p ∧ w.cell? ⟨b, off + j * 2, none⟩ = some (.int .i64 p.1) ∧ w.cell? ⟨b, off + j * 2 + 1, none⟩ = some (.int .i64 p.2) := by
  obtain ⟨b, off, hA, hc⟩ := h.2 (by omega)
  have hl := h.len
  have hx : l[j]? = some (l[j]'(by omega)) := List.getElem?_eq_getElem (by omega)
  obtain ⟨h1, h2⟩ := spanCells_at l j _ hx
  exact ⟨b, off, _, hA, hx, hc _ _ h1, by rw [Nat.add_assoc]; exact hc _ _ h2⟩
theorem Spans.below (h : Spans w A n l) (hb : Below w.heap.size w w') : Spans w' A n l := Sl.below (B := 0) h hb
theorem Spans.alloc (h : Spans w A n l) (o : Obj) : Spans (w.alloc o) A n l := Sl.alloc h o
theorem Spans.drewN (h : Spans w A n l) (q : Nat) : Spans (w.drewN q) A n l := h
end
end Go.Proofs.Ytlmkokeapbleoaa
end
section
namespace Go.Proofs.Ytlmkokeapbleoaa
open Go.RowKit
def St (w0 w : World) (F : World → Prop) : Prop := (∀ W, Below w.heap.size w W → F W) ∧ Below w0.heap.size w0 w
theorem St.start {w : World} {F : World → Prop} (h : ∀ W, Below w.heap.size w W → F W) : St w w F := ⟨h, Below.refl _ _⟩
theorem St.now {w0 w : World} {F : World → Prop} (h : St w0 w F) : F w := h.1 w (Below.refl _ _)
theorem St.step {w0 w w' : World} {F : World → Prop} (h : St w0 w F) (hb : Below w.heap.size w w') : St w0 w' F := ⟨fun W hW => h.1 W (below_to hb hW), below_to h.2 hb⟩
theorem St.add {w0 w w' : World} {F G : World → Prop} (h : St w0 w F) (hb : Below w.heap.size w w') (hG : ∀ W, Below w'.heap.size w' W → G W) : St w0 w' (fun W => G W ∧ F W) :=
  ⟨fun W hW => ⟨hG W hW, h.1 W (below_to hb hW)⟩, below_to h.2 hb⟩
theorem St.drewN {w0 w : World} {F : World → Prop} (h : St w0 w F) (q : Nat) : St w0 (w.drewN q) F := h.step (below_drewN (Below.refl _ _) q)
theorem St.alloc {w0 w : World} {F : World → Prop} (h : St w0 w F) (o : Obj) : St w0 (w.alloc o) F := h.step ((Below.refl _ _).alloc (Nat.le_refl _) o)
theorem St.weaken {w0 w : World} {F G : World → Prop} (h : St w0 w F) (hG : ∀ W, F W → G W) : St w0 w G := ⟨fun W hW => hG W (h.1 W hW), h.2⟩
theorem St.hstep {w0 w w' : World} {F : World → Prop} (h : Hid (St w0 w F)) (hb : Below w.heap.size w w') : Hid (St w0 w' F) := Lib.hid (h.out.step hb)
theorem St.hdrewN {w0 w : World} {F : World → Prop} (h : Hid (St w0 w F)) (q : Nat) : Hid (St w0 (w.drewN q) F) := Lib.hid (h.out.drewN q)
def RetV (w0 : World) (v : Value) (F : World → Prop) (e : Ending) (w' : World) : Prop := e = .returned v ∧ Hid (St w0 w' F)
theorem retV_gives {P : Program} {f : FuncId} {args : Array Value} {w0 w : World} {v : Value} {F : World → Prop} (hK : Hid (St w0 w F)) (h : Gives P f args w v) : Calls P f args w (RetV w0 v F) :=
  Calls.mono h fun e w' ⟨he, hb⟩ => ⟨he, St.hstep hK hb⟩
end Go.Proofs.Ytlmkokeapbleoaa
end
section
namespace Go.Proofs.Ytlmkokeapbleoaa
abbrev PartL := Int × Int × Int × Int
structure TermL where
  base : Int
  drop : Int
  take : Int
  up : Int
  sum : Int
  parts : List PartL
structure NodeL where
  held : Int
  next : List Int
  fin : Int
structure ActL where
  eat : Int
  dest : Int
  out : List TermL
structure TabL where
  cls : List Int
  nodes : List NodeL
  acts : List ActL
  ends : List (List TermL)
def unB (a b c d : Int) : Int := if a * 16777216 + b * 65536 + c * 256 + d < 2147483648 then a * 16777216 + b * 65536 + c * 256 + d else a * 16777216 + b * 65536 + c * 256 + d - 4294967296
def U8s (l : List Int) : Prop := ∀ x ∈ l, 0 ≤ x ∧ x < 256
abbrev RdL := List Int × Bool
def rNum (s : RdL) : Int × RdL := match s.1 with
  | a :: b :: c :: d :: l => (unB a b c d, (l, s.2))
  | l => (0, (l, true))
def r5 (s : RdL) : RdL := (rNum (rNum (rNum (rNum (rNum s).2).2).2).2).2
section
variable {s : RdL} {l : List Int} {b : Bool}
end
structure Goes {α : Type} (f : RdL → α × RdL) : Prop where
  bad : ∀ s, s.2 = true → (f s).2.2 = true
  u8 : ∀ s, U8s s.1 → U8s (f s).2.1
theorem Goes.ok {α : Type} {f : RdL → α × RdL} (h : Goes f) {s : RdL} (hb : (f s).2.2 = false) : s.2 = false := by
  cases hs : s.2
  · rfl
  · rw [h.bad s hs] at hb; cases hb
section
variable {α : Type} {f : RdL → α × RdL} {w : α → List Int} {P : α → Prop}
end
def h1 (s : RdL) : RdL := (rNum s).2
def h2 (s : RdL) : RdL := (rNum (h1 s)).2
def h3 (s : RdL) : RdL := (rNum (h2 s)).2
def h4 (s : RdL) : RdL := (rNum (h3 s)).2
def h5 (s : RdL) : RdL := ((h4 s).1.drop 256, (h4 s).2)
end Go.Proofs.Ytlmkokeapbleoaa
end
section
namespace Go.Proofs.Ytlmkokeapbleoaa
open Go.RowKit
noncomputable def pB (p : Prop) : Bool := @decide p (Classical.propDecidable p)
theorem pB_true {p : Prop} (h : p) : pB p = true := @decide_eq_true p (Classical.propDecidable p) h
theorem pB_false {p : Prop} (h : ¬ p) : pB p = false := @decide_eq_false p (Classical.propDecidable p) h
theorem pB_iff {p : Prop} : pB p = true ↔ p := ⟨fun h => Classical.byContradiction fun h2 => (by rw [pB_false h2] at h; cases h), pB_true⟩
theorem pB_congr {p q : Prop} (h : p ↔ q) : pB p = pB q := by rw [propext h]
theorem pB_t {p : Prop} {v : Bool} (hv : Hid (pB p = v)) (h : p) : v = true := hv.out.symm.trans (pB_true h)
theorem pB_f {p : Prop} {v : Bool} (hv : Hid (pB p = v)) (h : ¬ p) : v = false := hv.out.symm.trans (pB_false h)
structure RowsAt {α : Type} (size : Nat) (f : α → List Value) (R : α → World → Prop) (A : Option Addr) (L : List α) (W : World) : Prop where
  sl : Sl W size A L.length (L.flatMap f)
  it : ∀ x ∈ L, R x W
  ln : L.length ≤ 9223372036854775807
def Stays {α : Type} (R : α → World → Prop) : Prop := ∀ x w w', R x w → Below w.heap.size w w' → R x w'
theorem flatMap_at {α : Type} {f : α → List Value} {size : Nat} (hf : ∀ x, (f x).length = size) {L : List α} {j : Nat} {x : α} (hx : L[j]? = some x) {i : Nat} {u : Value} (hu : (f x)[i]? = some u) : (L.flatMap f)[j * size + i]? = some u := by
  induction L generalizing j with
  | nil => simp at hx
  | cons y L ih =>
    have hi : i < size := by have := (List.getElem?_eq_some_iff.1 hu).1; rw [hf] at this; exact this
    cases j with
    | zero =>
      simp at hx; subst hx
      rw [List.flatMap_cons, Nat.zero_mul, Nat.zero_add, List.getElem?_append_left (by rw [hf]; exact hi)]; exact hu
    | succ j =>
      rw [List.flatMap_cons, List.getElem?_append_right (by rw [hf, Nat.add_mul]; omega), hf, show (j + 1) * size + i - size = j * size + i by rw [Nat.add_mul]; omega]
      exact ih (by simpa using hx)
section
variable {α : Type} {size : Nat} {f : α → List Value} {R : α → World → Prop} {A : Option Addr} {L : List α} {W W' : World}
theorem RowsAt.at_ (h : RowsAt size f R A L W) (hf : ∀ x, (f x).length = size) {j : Nat} (hj : j < L.length) :
    ∃ b off x, A = some ⟨b, off, none⟩ ∧ L[j]? = some x ∧ (∀ i u, (f x)[i]? = some u → W.cell? ⟨b, off + j * size + i, none⟩ = some u) ∧ R x W := by
  obtain ⟨b, off, hA, hc⟩ := h.sl.2 (by omega)
  have hx : L[j]? = some L[j] := List.getElem?_eq_getElem hj
  exact ⟨b, off, _, hA, hx, fun i u hu => by rw [Nat.add_assoc]; exact hc _ u (flatMap_at hf hx hu), h.it _ (List.mem_of_getElem? hx)⟩
theorem RowsAt.below (h : RowsAt size f R A L W) (hR : Stays R) (hb : Below W.heap.size W W') : RowsAt size f R A L W' :=
  ⟨Sl.below (B := 0) h.sl hb, fun x hx => hR x _ _ (h.it x hx) hb, h.ln⟩
theorem RowsAt.nil_ (size : Nat) (f : α → List Value) (R : α → World → Prop) (A : Option Addr) (W : World) : RowsAt size f R A [] W := ⟨Sl.nil_ _ _ _, fun x hx => (by cases hx), by simp⟩
end
def I64 (x : Int) : Prop := -9223372036854775808 ≤ x ∧ x ≤ 9223372036854775807
def partC (p : PartL) : List Value := [.int .i64 p.1, .int .i64 p.2.1, .int .i64 p.2.2.1, .int .i64 p.2.2.2]
def PartW (p : PartL) : Prop := I64 p.1 ∧ I64 p.2.1 ∧ I64 p.2.2.1 ∧ I64 p.2.2.2
def PartsAt (A : Option Addr) (l : List PartL) (W : World) : Prop := RowsAt 4 partC (fun p _ => PartW p) A l W
structure TermI where
  b : Int
  d : Int
  t : Int
  u : Int
  s : Int
  pa : Option Addr
  pc : Nat
  ps : List PartL
def TermI.L (i : TermI) : TermL := ⟨i.b, i.d, i.t, i.u, i.s, i.ps⟩
def termC (i : TermI) : List Value := [.int .i64 i.b, .int .i64 i.d, .int .i64 i.t, .int .i64 i.u, .int .i64 i.s, .slice i.pa i.ps.length i.pc]
def TermW (i : TermI) (W : World) : Prop := (I64 i.b ∧ I64 i.d ∧ I64 i.t ∧ I64 i.u ∧ I64 i.s) ∧ PartsAt i.pa i.ps W
def TermsAt (A : Option Addr) (l : List TermI) (W : World) : Prop := RowsAt 6 termC TermW A l W
structure OutI where
  a : Option Addr
  c : Nat
  l : List TermI
def OutI.L (o : OutI) : List TermL := o.l.map TermI.L
def OutI.v (o : OutI) : Value := .slice o.a o.l.length o.c
def OutW (o : OutI) (W : World) : Prop := TermsAt o.a o.l W
structure NodeI where
  h : Int
  na : Option Addr
  nc : Nat
  nx : List Int
  e : Int
def NodeI.L (n : NodeI) : NodeL := ⟨n.h, n.nx, n.e⟩
def nodeC (n : NodeI) : List Value := [.int .i64 n.h, .slice n.na n.nx.length n.nc, .int .i64 n.e]
def IntsAt (A : Option Addr) (l : List Int) (W : World) : Prop := RowsAt 1 (fun x => [Value.int .i64 x]) (fun x _ => I64 x) A l W
def NodeW (n : NodeI) (W : World) : Prop := (I64 n.h ∧ I64 n.e) ∧ IntsAt n.na n.nx W
def NodesAt (A : Option Addr) (l : List NodeI) (W : World) : Prop := RowsAt 3 nodeC NodeW A l W
structure ActI where
  e : Int
  d : Int
  o : OutI
def ActI.L (a : ActI) : ActL := ⟨a.e, a.d, a.o.L⟩
def actC (a : ActI) : List Value := [.int .i64 a.e, .int .i64 a.d, a.o.v]
def ActW (a : ActI) (W : World) : Prop := (I64 a.e ∧ I64 a.d) ∧ OutW a.o W
def ActsAt (A : Option Addr) (l : List ActI) (W : World) : Prop := RowsAt 3 actC ActW A l W
def EndsAt (A : Option Addr) (l : List OutI) (W : World) : Prop := RowsAt 1 (fun o => [OutI.v o]) OutW A l W
structure TabI where
  cls : List Int
  na : Option Addr
  nc : Nat
  ns : List NodeI
  aa : Option Addr
  ac : Nat
  acts : List ActI
  ea : Option Addr
  ec : Nat
  es : List OutI
def TabI.L (t : TabI) : TabL := ⟨t.cls, t.ns.map NodeI.L, t.acts.map ActI.L, t.es.map OutI.L⟩
structure TabW (t : TabI) (W : World) : Prop where
  nodes : NodesAt t.na t.ns W
  acts : ActsAt t.aa t.acts W
  ends : EndsAt t.ea t.es W
theorem PartsAt.below {A : Option Addr} {l : List PartL} {w w' : World} (h : PartsAt A l w) (hb : Below w.heap.size w w') : PartsAt A l w' := RowsAt.below h (fun _ _ _ h _ => h) hb
theorem IntsAt.below {A : Option Addr} {l : List Int} {w w' : World} (h : IntsAt A l w) (hb : Below w.heap.size w w') : IntsAt A l w' := RowsAt.below h (fun _ _ _ h _ => h) hb
theorem TermW.stays : Stays TermW := fun i w w' h hb => ⟨h.1, h.2.below hb⟩
theorem TermsAt.below {A : Option Addr} {l : List TermI} {w w' : World} (h : TermsAt A l w) (hb : Below w.heap.size w w') : TermsAt A l w' := RowsAt.below h TermW.stays hb
theorem OutW.stays : Stays OutW := fun i w w' h hb => TermsAt.below h hb
theorem NodeW.stays : Stays NodeW := fun i w w' h hb => ⟨h.1, h.2.below hb⟩
theorem NodesAt.below {A : Option Addr} {l : List NodeI} {w w' : World} (h : NodesAt A l w) (hb : Below w.heap.size w w') : NodesAt A l w' := RowsAt.below h NodeW.stays hb
theorem ActW.stays : Stays ActW := fun i w w' h hb => ⟨h.1, TermsAt.below h.2 hb⟩
theorem ActsAt.below {A : Option Addr} {l : List ActI} {w w' : World} (h : ActsAt A l w) (hb : Below w.heap.size w w') : ActsAt A l w' := RowsAt.below h ActW.stays hb
theorem EndsAt.below {A : Option Addr} {l : List OutI} {w w' : World} (h : EndsAt A l w) (hb : Below w.heap.size w w') : EndsAt A l w' := RowsAt.below h OutW.stays hb
theorem TabW.below {t : TabI} {w w' : World} (h : TabW t w) (hb : Below w.heap.size w w') : TabW t w' := ⟨h.nodes.below hb, h.acts.below hb, h.ends.below hb⟩
theorem PartsAt.at_ {A : Option Addr} {l : List PartL} {W : World} (h : PartsAt A l W) {j : Nat} (hj : j < l.length) : ∃ b off p, A = some ⟨b, off, none⟩ ∧ l[j]? = some p ∧ PartW p ∧
    W.cell? ⟨b, off + j * 4, none⟩ = some (.int .i64 p.1) ∧ W.cell? ⟨b, off + j * 4 + 1, none⟩ = some (.int .i64 p.2.1) ∧ W.cell? ⟨b, off + j * 4 + 2, none⟩ = some (.int .i64 p.2.2.1) ∧ W.cell? ⟨b, off + j * 4 + 3, none⟩ = some (.int .i64 p.2.2.2) := by
  obtain ⟨b, off, p, hA, hp, hc, hw⟩ := RowsAt.at_ h (fun _ => rfl) hj
  exact ⟨b, off, p, hA, hp, hw, hc 0 _ rfl, hc 1 _ rfl, hc 2 _ rfl, hc 3 _ rfl⟩
theorem IntsAt.at_ {A : Option Addr} {l : List Int} {W : World} (h : IntsAt A l W) {j : Nat} (hj : j < l.length) : ∃ b off x, A = some ⟨b, off, none⟩ ∧ l[j]? = some x ∧ I64 x ∧ W.cell? ⟨b, off + j, none⟩ = some (.int .i64 x) := by
  obtain ⟨b, off, p, hA, hp, hc, hw⟩ := RowsAt.at_ h (fun _ => rfl) hj
  have := hc 0 _ rfl
  rw [Nat.mul_one, Nat.add_zero] at this
  exact ⟨b, off, p, hA, hp, hw, this⟩
theorem TermsAt.at_ {A : Option Addr} {l : List TermI} {W : World} (h : TermsAt A l W) {j : Nat} (hj : j < l.length) : ∃ b off i, A = some ⟨b, off, none⟩ ∧ l[j]? = some i ∧ TermW i W ∧
    W.cell? ⟨b, off + j * 6, none⟩ = some (.int .i64 i.b) ∧ W.cell? ⟨b, off + j * 6 + 1, none⟩ = some (.int .i64 i.d) ∧ W.cell? ⟨b, off + j * 6 + 2, none⟩ = some (.int .i64 i.t) ∧ W.cell? ⟨b, off + j * 6 + 3, none⟩ = some (.int .i64 i.u) ∧
    W.cell? ⟨b, off + j * 6 + 4, none⟩ = some (.int .i64 i.s) ∧ W.cell? ⟨b, off + j * 6 + 5, none⟩ = some (.slice i.pa i.ps.length i.pc) := by
  obtain ⟨b, off, p, hA, hp, hc, hw⟩ := RowsAt.at_ h (fun _ => rfl) hj
  exact ⟨b, off, p, hA, hp, hw, hc 0 _ rfl, hc 1 _ rfl, hc 2 _ rfl, hc 3 _ rfl, hc 4 _ rfl, hc 5 _ rfl⟩
theorem NodesAt.at_ {A : Option Addr} {l : List NodeI} {W : World} (h : NodesAt A l W) {j : Nat} (hj : j < l.length) : ∃ b off n, A = some ⟨b, off, none⟩ ∧ l[j]? = some n ∧ NodeW n W ∧
    W.cell? ⟨b, off + j * 3, none⟩ = some (.int .i64 n.h) ∧ W.cell? ⟨b, off + j * 3 + 1, none⟩ = some (.slice n.na n.nx.length n.nc) ∧ W.cell? ⟨b, off + j * 3 + 2, none⟩ = some (.int .i64 n.e) := by
  obtain ⟨b, off, p, hA, hp, hc, hw⟩ := RowsAt.at_ h (fun _ => rfl) hj
  exact ⟨b, off, p, hA, hp, hw, hc 0 _ rfl, hc 1 _ rfl, hc 2 _ rfl⟩
theorem ActsAt.at_ {A : Option Addr} {l : List ActI} {W : World} (h : ActsAt A l W) {j : Nat} (hj : j < l.length) : ∃ b off a, A = some ⟨b, off, none⟩ ∧ l[j]? = some a ∧ ActW a W ∧
    W.cell? ⟨b, off + j * 3, none⟩ = some (.int .i64 a.e) ∧ W.cell? ⟨b, off + j * 3 + 1, none⟩ = some (.int .i64 a.d) ∧ W.cell? ⟨b, off + j * 3 + 2, none⟩ = some (.slice a.o.a a.o.l.length a.o.c) := by
  obtain ⟨b, off, p, hA, hp, hc, hw⟩ := RowsAt.at_ h (fun _ => rfl) hj
  exact ⟨b, off, p, hA, hp, hw, hc 0 _ rfl, hc 1 _ rfl, hc 2 _ rfl⟩
theorem EndsAt.at_ {A : Option Addr} {l : List OutI} {W : World} (h : EndsAt A l W) {j : Nat} (hj : j < l.length) : ∃ b off o, A = some ⟨b, off, none⟩ ∧ l[j]? = some o ∧ OutW o W ∧ W.cell? ⟨b, off + j, none⟩ = some (.slice o.a o.l.length o.c) := by
  obtain ⟨b, off, p, hA, hp, hc, hw⟩ := RowsAt.at_ h (fun _ => rfl) hj
  have := hc 0 _ rfl
  rw [Nat.mul_one, Nat.add_zero] at this
  exact ⟨b, off, p, hA, hp, hw, this⟩
def SmallN (x : Int) : Prop := -1114111 ≤ x ∧ x ≤ 1114111
def Rising (l : List PartL) : Prop := ∀ (i : Nat) p q, l[i]? = some p → l[i + 1]? = some q → p.2.2.2 < q.2.2.2
def BitsOk (d t u : Int) : Prop := 0 ≤ d ∧ d ≤ 20 ∧ 1 ≤ t ∧ t ≤ 21 ∧ 0 ≤ u ∧ u ≤ 20 ∧ (u = 0 ∨ t ≤ 6)
def PartOk (n : Int) (p : PartL) : Prop := 0 ≤ p.1 ∧ p.1 < n ∧ BitsOk p.2.1 p.2.2.1 p.2.2.2
def RiseOk (l : List PartL) : Prop := Rising l ∧ l.length ≤ 4
def NumsOk (t : TermL) : Prop := SmallN t.base ∧ SmallN t.sum ∧ BitsOk t.drop t.take t.up ∧ RiseOk t.parts
end Go.Proofs.Ytlmkokeapbleoaa
end
section
namespace Go.Proofs.Ytlmkokeapbleoaa
open Go.RowKit
def bitsB (d t u : Int) : Bool := decide (0 ≤ d) && decide (d ≤ 20) && decide (1 ≤ t) && decide (t ≤ 21) && decide (0 ≤ u) && decide (u ≤ 20) && (decide (u = 0) || decide (t ≤ 6))
theorem bitsB_iff (d t u : Int) : bitsB d t u = true ↔ (0 ≤ d ∧ d ≤ 20 ∧ 1 ≤ t ∧ t ≤ 21 ∧ 0 ≤ u ∧ u ≤ 20 ∧ (u = 0 ∨ t ≤ 6)) := by simp [bitsB, and_assoc]
theorem bcell1 {W w1 : World} (hb : Below W.heap.size W w1) : (∀ b o, b < W.heap.size → w1.cell? ⟨b, o, none⟩ = W.cell? ⟨b, o, none⟩) ∧ (∀ b o, b < W.heap.size → w1.frozen? ⟨b, o, none⟩ = W.frozen? ⟨b, o, none⟩) :=
  ⟨fun b o h => hb.cell (p := ⟨b, o, none⟩) h, fun b o h => hb.frozen (p := ⟨b, o, none⟩) h⟩
theorem bits_any (a d t u : Int) (w : World) : Gives Try.prog 82 #[.agg #[.int .i64 a, .int .i64 d, .int .i64 t, .int .i64 u]] w (.bool (bitsB d t u)) := by
  unfold Gives
  go_enter Try.func82, Try.ntmps82
  go_wp2
  all_goals (go_ret; refine ⟨ret_bool ?_, (Below.refl _ _).alloc (Nat.le_refl _) _⟩; rw [Bool.eq_iff_iff, bitsB_iff]; simp_all; try omega)
def pw (n : Int) : Int := 2 ^ n.toNat
theorem pw_nat (k : Nat) : pw (k : Int) = 2 ^ k := by unfold pw; simp
theorem pw_pos (n : Int) : 1 ≤ pw n := by
  unfold pw
  have : (0 : Int) < 2 ^ n.toNat := Int.pow_pos (by decide)
  omega
theorem pw_succ {n : Int} (h : 0 ≤ n) : pw (n + 1) = 2 * pw n := by
  unfold pw
  rw [show (n + 1).toNat = n.toNat + 1 by omega, Int.pow_succ, Int.mul_comm]
theorem pw_mono {m n : Int} (h0 : 0 ≤ m) (h : m ≤ n) : pw m ≤ pw n := by
  obtain ⟨k, rfl⟩ : ∃ k : Nat, n = m + k := ⟨(n - m).toNat, by omega⟩
  clear h
  induction k with
  | zero => simp
  | succ k ih =>
    have := pw_succ (n := m + k) (by omega)
    have hp := pw_pos (m + k)
    rw [show m + ((k + 1 : Nat) : Int) = m + k + 1 by omega, this]; omega
theorem pw_le21 {n : Int} (h0 : 0 ≤ n) (h : n ≤ 21) : pw n ≤ 2097152 := pw_mono (n := 21) h0 h
theorem pw_le6 {n : Int} (h0 : 0 ≤ n) (h : n ≤ 6) : pw n ≤ 64 := pw_mono (n := 6) h0 h
def pval (d t u x : Int) : Int := x / pw d % pw t * pw u
theorem pval_bd {d t u : Int} (h : bitsB d t u = true) (x : Int) : 0 ≤ pval d t u x ∧ pval d t u x ≤ 67108864 := by
  obtain ⟨h1, h2, h3, h4, h5, h6, h7⟩ := (bitsB_iff _ _ _).1 h
  unfold pval
  have ht := pw_pos t
  have hu := pw_pos u
  have m0 := Int.emod_nonneg (x / pw d) (b := pw t) (by omega)
  have m1 := Int.emod_lt_of_pos (x / pw d) (b := pw t) (by omega)
  refine ⟨Int.mul_nonneg m0 (by omega), ?_⟩
  rcases h7 with rfl | h7
  · have : pw 0 = 1 := rfl
    rw [this]
    have := pw_le21 (n := t) (by omega) h4
    omega
  · have ht6 := pw_le6 (n := t) (by omega) h7
    have hu6 := pw_le21 (n := u) h5 (by omega)
    have h20 : pw u ≤ 1048576 := pw_mono (n := 20) h5 h6
    have := Int.mul_le_mul (a := x / pw d % pw t) (b := pw u) (c := 63) (d := 1048576) (by omega) h20 (by omega) (by omega)
    omega
theorem Whole_any (a : Int) (w : World) : Gives Try.prog 68 #[.int .i64 a] w (.agg #[.int .i64 a, .int .i64 0, .int .i64 21, .int .i64 0]) := by
  unfold Gives
  go_enter Try.func68, Try.ntmps68
  go_wp2_with fail
  exact bodyPost_ret (v := .agg #[.int .i64 a, .int .i64 0, .int .i64 21, .int .i64 0]) (by simp [results, Try.results68, go_sem]) rfl ⟨rfl, (Below.refl _ _).alloc (Nat.le_refl _) _⟩
def rightB (a d t u n : Int) : Bool := decide (0 ≤ a) && decide (a < n) && bitsB d t u
theorem Right_any (a d t u n : Int) (w : World) : Gives Try.prog 67 #[.agg #[.int .i64 a, .int .i64 d, .int .i64 t, .int .i64 u], .int .i64 n] w (.bool (rightB a d t u n)) := by
  have hb := fun w => bits_any a d t u w
  unfold Gives
  by_cases h1 : 0 ≤ a
  · by_cases h2 : a < n
    · have e : rightB a d t u n = bitsB d t u := by simp [rightB, h1, h2]
      rw [e]
      have HB := Lib.hid hb
      clear hb
      generalize bitsB d t u = v at *
      go_enter Try.func67, Try.ntmps67
      go_wp2_with (go_at_call 82; refine (HB.out _).out.mono ?_; rintro e w1 ⟨rfl, hb1⟩)
      go_ret
      exact ⟨rfl, below_to ((Below.refl _ _).alloc (Nat.le_refl _) _) hb1⟩
    · have e : rightB a d t u n = false := by simp [rightB, h2]
      rw [e]
      clear hb
      go_enter Try.func67, Try.ntmps67
      go_wp2_with fail
      go_ret
      exact ⟨rfl, (Below.refl _ _).alloc (Nat.le_refl _) _⟩
  · have e : rightB a d t u n = false := by simp [rightB, h1]
    rw [e]
    clear hb
    go_enter Try.func67, Try.ntmps67
    go_wp2_with fail
    go_ret
    exact ⟨rfl, (Below.refl _ _).alloc (Nat.le_refl _) _⟩
theorem w64_id {x : Int} (h0 : -9223372036854775808 ≤ x) (h1 : x ≤ 9223372036854775807) : wrap64 x = x := by unfold wrap64; omega
theorem band_nat (a b : Nat) (ha : a < 9223372036854775808) (hb : b < 9223372036854775808) : bits .and .i64 (a : Int) (b : Int) = ((a &&& b : Nat) : Int) := by
  have hx : a &&& b < 2 ^ 63 := Nat.and_lt_two_pow _ (by omega)
  have h1 : (BitVec.ofInt 64 (a : Int)).toNat = a := by
    rw [BitVec.ofInt_natCast, BitVec.toNat_ofNat]; exact Nat.mod_eq_of_lt (by omega)
  have h2 : (BitVec.ofInt 64 (b : Int)).toNat = b := by
    rw [BitVec.ofInt_natCast, BitVec.toNat_ofNat]; exact Nat.mod_eq_of_lt (by omega)
  show IntKind.i64.wrap ((BitVec.ofInt 64 (a : Int) &&& BitVec.ofInt 64 (b : Int)).toNat : Int) = _
  rw [BitVec.toNat_and, h1, h2]
  exact IntWalk.i64_in _ (by omega)
theorem two_nat (k : Nat) : ((2 ^ k : Nat) : Int) = 2 ^ k := by rw [Int.natCast_pow]; rfl
theorem band_mask {a t : Int} (ha0 : 0 ≤ a) (ha : a ≤ 4503599627370496) (h0 : 0 ≤ t) (h1 : t ≤ 21) : bits .and .i64 a (pw t - 1) = a % pw t := by
  obtain ⟨m, rfl⟩ := Int.eq_ofNat_of_zero_le ha0
  obtain ⟨k, rfl⟩ := Int.eq_ofNat_of_zero_le h0
  have hp := pw_le21 h0 h1
  have hp1 := pw_pos (k : Int)
  rw [pw_nat] at *
  have e : ((2 : Int) ^ k - 1) = ((2 ^ k - 1 : Nat) : Int) := by
    have : 1 ≤ 2 ^ k := Nat.one_le_two_pow
    rw [Int.ofNat_sub this, two_nat]; rfl
  have hk : (2 : Nat) ^ k ≤ 2097152 := by rw [← two_nat k] at hp; omega
  rw [e, band_nat _ _ (by omega) (by omega), Nat.and_two_pow_sub_one_eq_mod, Int.natCast_emod, two_nat]
theorem ret_pairP {a b : Int} {c d : Bool} (h : a = b) (h' : c = d) : Ending.returned (.tuple #[.int .i64 a, .bool c]) = .returned (.tuple #[.int .i64 b, .bool d]) := by rw [h, h']
theorem val_eq {d t u x : Int} (b1 : 0 ≤ d) (b2 : d ≤ 20) (b3 : 1 ≤ t) (b4 : t ≤ 21) (b5 : 0 ≤ u) (b6 : u ≤ 20) (hx0 : 0 ≤ x) (hx1 : x ≤ 2097151) (hv : Hid (0 ≤ pval d t u x ∧ pval d t u x ≤ 67108864)) :
    wrap64 (bits BinOp.and IntKind.i64 (x / 2 ^ d.toNat) (wrap64 (wrap64 (2 ^ t.toNat) - 1)) * 2 ^ u.toNat) = pval d t u x := by
  have hp := pw_le21 (n := t) (by omega) b4
  have hp1 := pw_pos t
  have hd := pw_pos d
  have e1 : (2 : Int) ^ t.toNat = pw t := rfl
  have e2 : (2 : Int) ^ d.toNat = pw d := rfl
  have e3 : (2 : Int) ^ u.toNat = pw u := rfl
  rw [e1, e2, e3, w64_id (x := pw t) (by omega) (by omega), w64_id (x := pw t - 1) (by omega) (by omega)]
  have hq0 : 0 ≤ x / pw d := Int.ediv_nonneg hx0 (by omega)
  have hq1 : x / pw d ≤ x := Int.ediv_le_self _ hx0
  rw [band_mask hq0 (by omega) (by omega) b4]
  have h2 := hv.out
  unfold pval at h2 ⊢
  exact w64_id (by omega) (by omega)
theorem Value_any (a d t u x : Int) (w : World) : Gives Try.prog 92 #[.agg #[.int .i64 a, .int .i64 d, .int .i64 t, .int .i64 u], .int .i64 x] w
    (if bitsB d t u = true ∧ 0 ≤ x ∧ x ≤ 2097151 then .tuple #[.int .i64 (pval d t u x), .bool true] else .tuple #[.int .i64 0, .bool false]) := by
  unfold Gives
  have HB := Lib.hid (fun w => bits_any a d t u w)
  rcases hv : bitsB d t u with _ | _
  · rw [if_neg (by simp)]
    rw [hv] at HB
    clear hv
    go_enter Try.func92, Try.ntmps92
    go_wp2_with (go_at_call 82; refine (HB.out _).out.mono ?_; rintro e w1 ⟨rfl, hb1⟩)
    go_ret2
    exact ⟨rfl, below_to ((Below.refl _ _).alloc (Nat.le_refl _) _) hb1⟩
  rw [hv] at HB
  by_cases h0 : x < 0
  · rw [if_neg (by omega)]
    clear hv
    go_enter Try.func92, Try.ntmps92
    go_wp2_with (go_at_call 82; refine (HB.out _).out.mono ?_; rintro e w1 ⟨rfl, hb1⟩)
    go_ret2
    exact ⟨rfl, below_to ((Below.refl _ _).alloc (Nat.le_refl _) _) hb1⟩
  by_cases h1 : 2097151 < x
  · rw [if_neg (by omega)]
    clear hv
    go_enter Try.func92, Try.ntmps92
    go_wp2_with (go_at_call 82; refine (HB.out _).out.mono ?_; rintro e w1 ⟨rfl, hb1⟩)
    go_ret2
    exact ⟨rfl, below_to ((Below.refl _ _).alloc (Nat.le_refl _) _) hb1⟩
  rw [if_pos ⟨rfl, by omega, by omega⟩]
  obtain ⟨b1, b2, b3, b4, b5, b6, b7⟩ := (bitsB_iff _ _ _).1 hv
  have hx0 : 0 ≤ x := by omega
  have hx1 : x ≤ 2097151 := by omega
  have hv7 := Lib.hid (pval_bd hv x)
  clear b7 hv
  go_enter Try.func92, Try.ntmps92
  go_wp2_with (go_at_call 82; refine (HB.out _).out.mono ?_; rintro e w1 ⟨rfl, hb1⟩; obtain ⟨hc, hf⟩ := bcell1 hb1)
  go_quiet (fail)
  have HB1 := Lib.hid hb1
  clear hb1 hc hf
  go_wp2_with fail
  go_ret2
  refine ⟨ret_pairP ?_ rfl, below_drewN (below_to ((Below.refl _ _).alloc (Nat.le_refl _) _) HB1.out) _⟩
  exact val_eq b1 b2 b3 b4 b5 b6 hx0 hx1 hv7
end Go.Proofs.Ytlmkokeapbleoaa
end
section
namespace Go.Proofs.Ytlmkokeapbleoaa
open Go.RowKit
theorem tsmall_any (x : Int) (w : World) : Calls Try.prog 80 #[.int .i64 x] w fun e w' => e = .returned (.bool (pB (SmallN x))) ∧ w = w' := by
  by_cases h1 : -1114111 ≤ x
  · by_cases h2 : x ≤ 1114111
    · rw [pB_true (p := SmallN x) ⟨h1, h2⟩]
      go_enter Try.func80, Try.ntmps80
      go_wp2_with fail
      go_ret
      exact ⟨rfl, rfl⟩
    · rw [pB_false (p := SmallN x) (fun h => h2 h.2)]
      go_enter Try.func80, Try.ntmps80
      go_wp2_with fail
      go_ret
      exact ⟨rfl, rfl⟩
  · rw [pB_false (p := SmallN x) (fun h => h1 h.1)]
    go_enter Try.func80, Try.ntmps80
    go_wp2_with fail
    go_ret
    exact ⟨rfl, rfl⟩
theorem outer_any (b d t u s : Int) (A : Option Addr) (n c : Nat) (w : World) : Gives Try.prog 73 #[.agg #[.int .i64 b, .int .i64 d, .int .i64 t, .int .i64 u, .int .i64 s, .slice A n c]] w (.agg #[.int .i64 0, .int .i64 d, .int .i64 t, .int .i64 u]) := by
  unfold Gives
  go_enter Try.func73, Try.ntmps73
  go_wp2_with fail
  exact bodyPost_ret (v := .agg #[.int .i64 0, .int .i64 d, .int .i64 t, .int .i64 u]) (by simp [results, Try.results73, go_sem]) rfl ⟨rfl, ((Below.refl _ _).alloc (Nat.le_refl _) _).alloc (by simp) _⟩
def RiseTo (l : List PartL) (k : Nat) : Prop := ∀ (i : Nat) p q, i + 1 < k → l[i]? = some p → l[i + 1]? = some q → p.2.2.2 < q.2.2.2
theorem RiseTo.all {l : List PartL} (h : RiseTo l l.length) : Rising l := fun i p q hp hq => h i p q (List.getElem?_eq_some_iff.1 hq).1 hp hq
theorem RiseTo.one (l : List PartL) {k : Nat} (h : k ≤ 1) : RiseTo l k := fun i p q hi => by omega
theorem RiseTo.next {l : List PartL} {j : Nat} {p q : PartL} (h : RiseTo l (j + 1)) (hp : l[j]? = some p) (hq : l[j + 1]? = some q) (hl : p.2.2.2 < q.2.2.2) : RiseTo l (j + 2) := fun i a b hi ha hb => by
  by_cases e : i = j
  · subst e
    rw [hp] at ha; rw [hq] at hb
    injection ha with ha; injection hb with hb
    subst ha; subst hb
    exact hl
  · exact h i a b (by omega) ha hb
section
variable {w0 w : World} {F : World → Prop} {A : Option Addr} {l : List PartL}
theorem rising_st (hK : Hid (St w0 w F)) (hp : ∀ W, F W → PartsAt A l W) (c : Nat) (v : Bool) (hv : Hid (pB (RiseOk l) = v)) :
    Calls Try.prog 81 #[.slice A l.length c] w (RetV w0 (.bool v) F) := by
  have hln := (hp _ hK.out.now).ln
  have HP := Lib.hid hp
  clear hp
  go_enter Try.func81, Try.ntmps81
  go_wp2_with fail
  go_loopw [7] (fun i wr => ∃ k : Nat, k ≤ l.length ∧ i = .int .i64 k ∧ Hid (RiseTo l k) ∧ Hid (St w0 wr F)) (fun i _ => l.length - (intOf i).toNat)
  case atStart => exact ⟨0, Nat.zero_le _, rfl, Lib.hid (RiseTo.one l (by omega)), hK⟩
  case round =>
  obtain ⟨k, hk, rfl, HR, HK⟩ := hrel
  by_cases hlt : k < l.length
  · obtain ⟨b, off, p, rfl, hx, hw, hc0, hc1, hc2, hc3⟩ := (HP.out _ HK.out.now).at_ hlt
    have hlw := lt_of_cell hc0
    have HK2 := St.hstep HK ((Below.refl _ _).alloc (Nat.le_refl _) (.cells #[.int .i64 p.1, .int .i64 p.2.1, .int .i64 p.2.2.1, .int .i64 p.2.2.2] 125))
    have HX := Lib.hid hx
    clear hx hw
    cases k with
    | zero =>
      have hg : decide ((0 : Int) < 0) = false := by simp
      simp only [Nat.zero_mul, Nat.add_zero] at hc0 hc1 hc2 hc3
      go_wp2_with (go_quiet (fail))
      exact ⟨⟨1, by omega, by go_num, Lib.hid (RiseTo.one l (by omega)), St.hdrewN HK2 _⟩, by first | (simp [intOf]; done) | (simp [intOf]; omega)⟩
    | succ j =>
      obtain ⟨b', off', q, hA, hq, _, hd0, hd1, hd2, hd3⟩ := (HP.out _ HK.out.now).at_ (j := j) (by omega)
      injection hA with hA
      injection hA with hA1 hA2
      subst hA1; subst hA2
      have HQ := Lib.hid hq
      have hg : decide ((0 : Int) < ((j + 1 : Nat) : Int)) = true := decide_eq_true (by omega)
      have hs : IntKind.i64.wrap (((j + 1 : Nat) : Int) - 1) = (j : Int) := by rw [Int.natCast_add, Int.natCast_one, Int.add_sub_cancel]; exact IntWalk.i64_in _ (by omega)
      clear hq hd0 hd1 hd2
      by_cases hl : p.2.2.2 ≤ q.2.2.2
      · obtain rfl := pB_f hv (fun h => by have := h.1 j q p HQ.out HX.out; omega)
        go_wp2_with (go_quiet (fail))
        go_ret
        exact ⟨rfl, St.hdrewN HK2 _⟩
      · go_wp2_with (go_quiet (fail))
        exact ⟨⟨j + 2, by omega, by go_num, Lib.hid (RiseTo.next HR.out HQ.out HX.out (by omega)), St.hdrewN HK2 _⟩, by simp [intOf]; omega⟩
  · obtain rfl : k = l.length := by omega
    have hd : decide (l.length < l.length) = false := by simp
    have HA := Lib.hid HR.out.all
    by_cases h4 : l.length ≤ 4
    · have h4' : (l.length : Int) ≤ 4 := by omega
      obtain rfl := pB_t hv ⟨HA.out, h4⟩
      go_wp2_with fail
      go_ret
      exact ⟨rfl, HK⟩
    · have h4' : ¬ (l.length : Int) ≤ 4 := by omega
      obtain rfl := pB_f hv (fun h => h4 h.2)
      go_wp2_with fail
      go_ret
      exact ⟨rfl, HK⟩
def BoxC (b : Nat) (cs : List Value) (W : World) : Prop := ∀ (i : Nat) v, cs[i]? = some v → W.cell? ⟨b, i, none⟩ = some v
theorem BoxC.below {b : Nat} {cs : List Value} {W W' : World} (h : BoxC b cs W) (hb : Below W.heap.size W W') : BoxC b cs W' := fun i v hv => (hb.cell (p := ⟨b, i, none⟩) (lt_of_cell (h i v hv))).trans (h i v hv)
theorem St.box (hK : Hid (St w0 w F)) (cs : List Value) (t : TypeId) : Hid (St w0 (w.alloc (.cells cs.toArray t)) (fun W => BoxC w.heap.size cs W ∧ F W)) := by
  refine Lib.hid (hK.out.add ((Below.refl _ _).alloc (Nat.le_refl _) _) fun W hW => ?_)
  have h0 : BoxC w.heap.size cs (w.alloc (.cells cs.toArray t)) := fun i v hv => by
    rw [World.cell?_alloc_new]; simpa using hv
  exact h0.below hW
theorem BoxC.c4 {b : Nat} {v0 v1 v2 v3 : Value} {W : World} (h : BoxC b [v0, v1, v2, v3] W) : W.cell? ⟨b, 0, none⟩ = some v0 ∧ W.cell? ⟨b, 1, none⟩ = some v1 ∧ W.cell? ⟨b, 2, none⟩ = some v2 ∧ W.cell? ⟨b, 3, none⟩ = some v3 :=
  ⟨h 0 _ rfl, h 1 _ rfl, h 2 _ rfl, h 3 _ rfl⟩
theorem BoxC.c3 {b : Nat} {v0 v1 v2 : Value} {W : World} (h : BoxC b [v0, v1, v2] W) : W.cell? ⟨b, 0, none⟩ = some v0 ∧ W.cell? ⟨b, 1, none⟩ = some v1 ∧ W.cell? ⟨b, 2, none⟩ = some v2 :=
  ⟨h 0 _ rfl, h 1 _ rfl, h 2 _ rfl⟩
theorem BoxC.c6 {b : Nat} {v0 v1 v2 v3 v4 v5 : Value} {W : World} (h : BoxC b [v0, v1, v2, v3, v4, v5] W) : W.cell? ⟨b, 0, none⟩ = some v0 ∧ W.cell? ⟨b, 1, none⟩ = some v1 ∧ W.cell? ⟨b, 2, none⟩ = some v2 ∧ W.cell? ⟨b, 3, none⟩ = some v3 ∧ W.cell? ⟨b, 4, none⟩ = some v4 ∧ W.cell? ⟨b, 5, none⟩ = some v5 :=
  ⟨h 0 _ rfl, h 1 _ rfl, h 2 _ rfl, h 3 _ rfl, h 4 _ rfl, h 5 _ rfl⟩
theorem rightB_eq (a d t u n : Int) : rightB a d t u n = pB (PartOk n (a, d, t, u)) := by
  rw [Bool.eq_iff_iff, pB_iff]
  simp [rightB, bitsB_iff, PartOk, BitsOk, and_assoc]
theorem PRight_st (hK : Hid (St w0 w F)) (a d t u n : Int) (v : Bool) (hv : Hid (pB (PartOk n (a, d, t, u)) = v)) : Calls Try.prog 67 #[.agg #[.int .i64 a, .int .i64 d, .int .i64 t, .int .i64 u], .int .i64 n] w (RetV w0 (.bool v) F) := by
  rw [← hv.out, ← rightB_eq]
  exact retV_gives hK (Right_any a d t u n w)
theorem numbers_st (hK : Hid (St w0 w F)) (hp : ∀ W, F W → PartsAt A l W) (b d t u s : Int) (c : Nat) (v : Bool) (hv : Hid (pB (NumsOk ⟨b, d, t, u, s, l⟩) = v)) :
    Calls Try.prog 66 #[.agg #[.int .i64 b, .int .i64 d, .int .i64 t, .int .i64 u, .int .i64 s, .slice A l.length c]] w (RetV w0 (.bool v) F) := by
  have HP := Lib.hid hp
  have HK := St.box hK [.int .i64 b, .int .i64 d, .int .i64 t, .int .i64 u, .int .i64 s, .slice A l.length c] 100
  clear hp
  by_cases a1 : SmallN b
  case neg =>
    obtain rfl := pB_f hv (fun h => a1 h.1)
    have h1 := pB_false a1
    clear a1
    go_enter Try.func66, Try.ntmps66
    go_wp2_with (go_at_call 80; refine (tsmall_any _ _).mono ?_; rintro e w' ⟨rfl, rfl⟩)
    go_ret
    exact ⟨rfl, Lib.hid (HK.out.weaken fun _ h => h.2)⟩
  have h1 := pB_true a1
  by_cases a2 : SmallN s
  case neg =>
    obtain rfl := pB_f hv (fun h => a2 h.2.1)
    have h2 := pB_false a2
    clear a1 a2
    go_enter Try.func66, Try.ntmps66
    go_wp2_with (go_at_call 80; refine (tsmall_any _ _).mono ?_; rintro e w' ⟨rfl, rfl⟩)
    go_ret
    exact ⟨rfl, Lib.hid (HK.out.weaken fun _ h => h.2)⟩
  have h2 := pB_true a2
  have HA := Lib.hid (And.intro a1 a2)
  clear a1 a2
  go_enter Try.func66, Try.ntmps66
  go_wp2_with (go_at_call 80; refine (tsmall_any _ _).mono ?_; rintro e w' ⟨rfl, rfl⟩)
  refine (retV_gives HK (outer_any b d t u s A l.length c _)).mono ?_
  rintro e w1 ⟨rfl, HK1⟩
  by_cases a3 : BitsOk d t u
  case neg =>
    obtain rfl := pB_f hv (fun h => a3 h.2.2.1)
    have H3 := Lib.hid (pB_false (p := PartOk 1 (0, d, t, u)) (fun h => a3 h.2.2))
    clear a3 h1 h2
    go_wp2_with fail
    refine (PRight_st HK1 0 d t u 1 false H3).mono ?_
    rintro e w2 ⟨rfl, HK2⟩
    go_wp2_with fail
    go_ret
    exact ⟨rfl, Lib.hid (HK2.out.weaken fun _ h => h.2)⟩
  have H3 := Lib.hid (pB_true (p := PartOk 1 (0, d, t, u)) ⟨by simp, by simp, a3⟩)
  have HV : Hid (pB (RiseOk l) = v) := by
    rw [← hv.out]
    exact pB_congr ⟨fun h => ⟨HA.out.1, HA.out.2, a3, h⟩, fun h => h.2.2.2⟩
  clear a3 h1 h2
  go_wp2_with fail
  refine (PRight_st HK1 0 d t u 1 true H3).mono ?_
  rintro e w2 ⟨rfl, HK2⟩
  have hc5 := HK2.out.now.1 5 _ rfl
  go_wp2_with fail
  refine (rising_st HK2 (fun _ h => HP.out _ h.2) c v HV).mono ?_
  rintro e w3 ⟨rfl, HK3⟩
  go_wp2_with fail
  go_ret
  exact ⟨rfl, Lib.hid (HK3.out.weaken fun _ h => h.2)⟩
end
end Go.Proofs.Ytlmkokeapbleoaa
end
section
namespace Go.Proofs.Ytlmkokeapbleoaa
open Go.RowKit
section
variable {w0 w : World} {F : World → Prop} {A : Option Addr} {l : List PartL}
end
end Go.Proofs.Ytlmkokeapbleoaa
end
section
namespace Go.Proofs.Ytlmkokeapbleoaa
open Go.RowKit
section
variable {w0 w : World} {F : World → Prop} {A : Option Addr} {l : List PartL}
end
end Go.Proofs.Ytlmkokeapbleoaa
end
section
namespace Go.Proofs.Ytlmkokeapbleoaa
open Go.RowKit
def NewSpans (w : World) (l : List (Int × Int)) (e : Ending) (w' : World) : Prop :=
  ∃ A n c, e = .returned (.slice A n c) ∧ Spans w' A n l ∧ n ≤ c ∧ c ≤ 9223372036854775807 ∧ Below w.heap.size w w'
theorem NewSpans.lit {w : World} {l : List (Int × Int)} (hl : l.length ≤ 1000) (t : TypeId) (n : Nat) (hn : n = l.length) (cs : Array Value) (hcs : cs.toList = spanCells l) :
    NewSpans w l (.returned (.slice (some ⟨w.heap.size, 0, none⟩) n n)) (w.alloc (.cells cs t)) := by
  subst hn
  refine ⟨_, _, _, rfl, ⟨by rw [spanCells_length], fun _ => ⟨_, _, rfl, fun j u hu => ?_⟩⟩, Nat.le_refl _, by omega, (Below.refl _ w).alloc (Nat.le_refl _) _⟩
  have hb : (w.alloc (.cells cs t)).heap[w.heap.size]? = some (.cells cs t (0, 0)) := heap_alloc_new w _
  simp only [World.cell?, hb]
  rw [← hcs] at hu
  simpa using hu
theorem NewSpans.nil_ (w : World) : NewSpans w [] (.returned (.slice none 0 0)) w := ⟨_, _, _, rfl, Sl.nil_ _ _ _, Nat.le_refl _, by omega, Below.refl _ _⟩
end Go.Proofs.Ytlmkokeapbleoaa
end
section
namespace Go.Proofs.Ytlmkokeapbleoaa
open Go.RowKit
abbrev Sp := Int × Int
def InS : List Sp → Int → Prop
  | [], _ => False
  | p :: l, x => (p.1 ≤ x ∧ x ≤ p.2) ∨ InS l x
def Mem (l : List Sp) (x : Int) : Prop := -1073741824 ≤ x ∧ x ≤ 1073741824 ∧ InS l x
def PlainF : Int → List Sp → Prop
  | _, [] => True
  | a, p :: l => a + 1 < p.1 ∧ p.1 ≤ p.2 ∧ p.2 ≤ 1073741824 ∧ PlainF p.2 l
def Plain (l : List Sp) : Prop := PlainF (-1073741826) l
def Rep (l : List Sp) (S : Int → Prop) : Prop := Plain l ∧ ∀ x, InS l x ↔ S x
theorem InS_append (l m : List Sp) (x : Int) : InS (l ++ m) x ↔ InS l x ∨ InS m x := by
  induction l with
  | nil => simp [InS]
  | cons p l ih => simp [InS, ih, or_assoc]
theorem InS_of_mem {l : List Sp} {p : Sp} (h : p ∈ l) {x : Int} (h1 : p.1 ≤ x) (h2 : x ≤ p.2) : InS l x := by
  induction l with
  | nil => cases h
  | cons q l ih =>
    rcases List.mem_cons.1 h with rfl | h
    · exact .inl ⟨h1, h2⟩
    · exact .inr (ih h)
theorem InS_iff (l : List Sp) (x : Int) : InS l x ↔ ∃ p ∈ l, p.1 ≤ x ∧ x ≤ p.2 := by
  induction l with
  | nil => simp [InS]
  | cons p l ih => simp [InS, ih]
theorem PlainF.low {a : Int} {l : List Sp} (h : PlainF a l) {x : Int} (hx : InS l x) : a + 1 < x := by
  induction l generalizing a with
  | nil => cases hx
  | cons p l ih =>
    obtain ⟨h1, h2, h3, h4⟩ := h
    rcases hx with hx | hx
    · omega
    · have := ih h4 hx; omega
theorem PlainF.high {a : Int} {l : List Sp} (h : PlainF a l) {x : Int} (hx : InS l x) : x ≤ 1073741824 := by
  induction l generalizing a with
  | nil => cases hx
  | cons p l ih =>
    obtain ⟨h1, h2, h3, h4⟩ := h
    rcases hx with hx | hx
    · omega
    · exact ih h4 hx
theorem Plain.low {l : List Sp} (h : Plain l) {x : Int} (hx : InS l x) : -1073741824 ≤ x := by have := PlainF.low h hx; omega
theorem Plain.mem {l : List Sp} (h : Plain l) (x : Int) : Mem l x ↔ InS l x := ⟨fun hx => hx.2.2, fun hx => ⟨h.low hx, PlainF.high h hx, hx⟩⟩
theorem PlainF.mono {a b : Int} {l : List Sp} (h : PlainF a l) (hb : b ≤ a) : PlainF b l := by
  cases l with
  | nil => trivial
  | cons p l => obtain ⟨h1, h2⟩ := h; exact ⟨by omega, h2⟩
theorem PlainF.unique {a : Int} {l m : List Sp} (hl : PlainF a l) (hm : PlainF a m) (h : ∀ x, InS l x ↔ InS m x) : l = m := by
  induction l generalizing a m with
  | nil =>
    cases m with
    | nil => rfl
    | cons q m => exact absurd ((h q.1).2 (.inl ⟨by omega, hm.2.1⟩)) (by simp [InS])
  | cons p l ih =>
    cases m with
    | nil => exact absurd ((h p.1).1 (.inl ⟨by omega, hl.2.1⟩)) (by simp [InS])
    | cons q m =>
      obtain ⟨a1, a2, a3, a4⟩ := hl
      obtain ⟨b1, b2, b3, b4⟩ := hm
      have e1 : p.1 = q.1 := by
        have h1 := (h p.1).1 (.inl ⟨by omega, a2⟩)
        have h2 := (h q.1).2 (.inl ⟨by omega, b2⟩)
        have g1 : q.1 ≤ p.1 := by
          rcases h1 with h1 | h1
          · exact h1.1
          · have := b4.low h1; omega
        have g2 : p.1 ≤ q.1 := by
          rcases h2 with h2 | h2
          · exact h2.1
          · have := a4.low h2; omega
        omega
      have e2 : p.2 = q.2 := by
        have g1 : ¬ p.2 < q.2 := fun g => by
          rcases (h (p.2 + 1)).2 (.inl ⟨by omega, by omega⟩) with h1 | h1
          · omega
          · have := a4.low h1; omega
        have g2 : ¬ q.2 < p.2 := fun g => by
          rcases (h (q.2 + 1)).1 (.inl ⟨by omega, by omega⟩) with h1 | h1
          · omega
          · have := b4.low h1; omega
        omega
      have e : p = q := Prod.ext e1 e2
      subst e
      rw [ih a4 b4 fun x => ?_]
      constructor
      · intro hx
        have := a4.low hx
        rcases (h x).1 (.inr hx) with h1 | h1
        · omega
        · exact h1
      · intro hx
        have := b4.low hx
        rcases (h x).2 (.inr hx) with h1 | h1
        · omega
        · exact h1
theorem Rep.unique {l m : List Sp} {S T : Int → Prop} (h : Rep l S) (k : Rep m T) (hST : ∀ x, S x ↔ T x) : l = m :=
  PlainF.unique h.1 k.1 fun x => by rw [h.2, k.2, hST]
theorem Rep.congr {l : List Sp} {S T : Int → Prop} (h : Rep l S) (hST : ∀ x, S x ↔ T x) : Rep l T := ⟨h.1, fun x => (h.2 x).trans (hST x)⟩
theorem Rep.self {l : List Sp} (h : Plain l) : Rep l (Mem l) := ⟨h, fun x => (h.mem x).symm⟩
theorem PlainF.snoc {a : Int} {l : List Sp} {q : Sp} (h : PlainF a l) (hq : a + 1 < q.1) (hl : ∀ p ∈ l, p.2 + 1 < q.1) (h2 : q.1 ≤ q.2) (h3 : q.2 ≤ 1073741824) : PlainF a (l ++ [q]) := by
  induction l generalizing a with
  | nil => exact ⟨hq, h2, h3, trivial⟩
  | cons p l ih =>
    obtain ⟨a1, a2, a3, a4⟩ := h
    exact ⟨a1, a2, a3, ih a4 (hl p (by simp)) fun r hr => hl r (by simp [hr])⟩
theorem PlainF.init {a : Int} {l m : List Sp} (h : PlainF a (l ++ m)) : PlainF a l := by
  induction l generalizing a with
  | nil => trivial
  | cons p l ih => obtain ⟨a1, a2, a3, a4⟩ := h; exact ⟨a1, a2, a3, ih a4⟩
theorem PlainF.last {a : Int} {l : List Sp} {q : Sp} (h : PlainF a (l ++ [q])) : a + 1 < q.1 ∧ (∀ p ∈ l, p.2 + 1 < q.1) ∧ q.1 ≤ q.2 ∧ q.2 ≤ 1073741824 := by
  induction l generalizing a with
  | nil => obtain ⟨a1, a2, a3, _⟩ := h; exact ⟨a1, by simp, a2, a3⟩
  | cons p l ih =>
    obtain ⟨a1, a2, a3, a4⟩ := h
    obtain ⟨b1, b2, b3, b4⟩ := ih a4
    refine ⟨by omega, fun r hr => ?_, b3, b4⟩
    rcases List.mem_cons.1 hr with rfl | hr
    · omega
    · exact b2 r hr
theorem PlainF.tail {a : Int} {p : Sp} {l : List Sp} (h : PlainF a (p :: l)) : PlainF p.2 l := h.2.2.2
def cnt (l : List Sp) : Int := (l.map fun p => p.2 - p.1 + 1).sum
def plainB : Int → List Sp → Bool
  | _, [] => true
  | a, p :: l => decide (a + 1 < p.1) && decide (p.1 ≤ p.2) && decide (p.2 ≤ 1073741824) && plainB p.2 l
theorem plainB_iff (a : Int) (l : List Sp) : plainB a l = true ↔ PlainF a l := by
  induction l generalizing a with
  | nil => simp [plainB, PlainF]
  | cons p l ih => simp [plainB, PlainF, ih, and_assoc]
end Go.Proofs.Ytlmkokeapbleoaa
end
section
namespace Go.Proofs.Ytlmkokeapbleoaa
open Go.RowKit
def SpW (l : List Sp) : Prop := ∀ p ∈ l, (-9223372036854775808 ≤ p.1 ∧ p.1 ≤ 9223372036854775807) ∧ (-9223372036854775808 ≤ p.2 ∧ p.2 ≤ 9223372036854775807)
theorem Check_any (A : Option Addr) (n c : Nat) (l : List Sp) (w : World) (h : Spans w A n l) (hn : n ≤ 9223372036854775806) :
    Gives Try.prog 45 #[.slice A n c] w (.bool (plainB (-1073741826) l)) := by
  have H := Lib.hid h
  clear h
  unfold Gives
  go_enter Try.func45, Try.ntmps45
  go_wp2_with fail
  go_loopw [3, 8] (fun la i wr => ∃ (k : Nat) (a : Int), k ≤ n ∧ -1073741826 ≤ a ∧ a ≤ 1073741824 ∧ i = .int .i64 k ∧ la = .int .i64 a ∧ Spans wr A n l ∧ Below w.heap.size w wr ∧ Hid (plainB a (l.drop k) = plainB (-1073741826) l)) (fun _ i _ => n - (intOf i).toNat)
  case atStart => exact ⟨0, _, Nat.zero_le _, by omega, by omega, rfl, rfl, H.out, Below.refl _ _, rfl⟩
  case round =>
    obtain ⟨k, a, hk, ha1, ha2, rfl, rfl, hS, hb, hal⟩ := hrel
    have HB := Lib.hid hb
    have HS := Lib.hid hS
    clear hb hS
    by_cases hlt : k < n
    · obtain ⟨b, off, p, rfl, hx, hc1, hc2⟩ := HS.out.at_ hlt
      have HX := Lib.hid (drop_cons? hx)
      clear hx
      go_wp2_with fail
      all_goals first
        | (go_ret
           refine ⟨ret_bool ?_, HB.out.alloc HB.out.size _⟩
           rw [eq_comm, ← hal.out, HX.out, ← Bool.not_eq_true, plainB_iff]
           rintro ⟨a1, a2, a3, _⟩
           omega)
        | (go_roundw
           case rel =>
             refine ⟨k + 1, p.2, by omega, by omega, by omega, by go_num, rfl, HS.out.alloc _, HB.out.alloc HB.out.size _, ?_⟩
             unfold Hid
             rw [← hal.out, HX.out]
             simp only [plainB]
             rw [decide_eq_true (by omega), decide_eq_true (by omega), decide_eq_true (by omega)]
             rfl
           case measure => simp [intOf]; omega)
    · go_wp2_with fail
      go_ret
      refine ⟨ret_bool ?_, HB.out⟩
      rw [← hal.out, List.drop_of_length_le (by have := HS.out.len; omega)]
      rfl
def memB (l : List Sp) (x : Int) : Bool := l.any fun p => decide (p.1 ≤ x) && decide (x ≤ p.2)
theorem memB_iff (l : List Sp) (x : Int) : memB l x = true ↔ InS l x := by
  induction l with
  | nil => simp [memB, InS]
  | cons p l ih => simp only [memB, List.any_cons, InS, Bool.or_eq_true, Bool.and_eq_true, decide_eq_true_eq] at *; rw [ih]
def hasB (l : List Sp) (x : Int) : Bool := decide (-1073741824 ≤ x) && decide (x ≤ 1073741824) && memB l x
theorem hasB_iff (l : List Sp) (x : Int) : hasB l x = true ↔ Mem l x := by simp [hasB, Mem, memB_iff, and_assoc]
theorem memB_drop (l : List Sp) (k : Nat) (p : Sp) (x : Int) (h : l.drop k = p :: l.drop (k + 1)) : memB (l.drop k) x = (decide (p.1 ≤ x) && decide (x ≤ p.2) || memB (l.drop (k + 1)) x) := by
  rw [h]; rfl
theorem Has_any (A : Option Addr) (n c : Nat) (l : List Sp) (x : Int) (w : World) (h : Spans w A n l) (hn : n ≤ 9223372036854775806) :
    Gives Try.prog 20 #[.slice A n c, .int .i64 x] w (.bool (hasB l x)) := by
  have H := Lib.hid h
  clear h
  unfold Gives
  by_cases hx : x < -1073741824 ∨ 1073741824 < x
  · have e : hasB l x = false := by rw [← Bool.not_eq_true, hasB_iff]; rintro ⟨h1, h2, _⟩; omega
    rw [e]
    rcases hx with hx | hx
    · go_enter Try.func20, Try.ntmps20
      go_wp2_with fail
      go_ret
      exact ⟨rfl, Below.refl _ _⟩
    · have hx2 : ¬ x < -1073741824 := by omega
      go_enter Try.func20, Try.ntmps20
      go_wp2_with fail
      go_ret
      exact ⟨rfl, Below.refl _ _⟩
  have hx1 : ¬ x < -1073741824 := by omega
  have hx2 : ¬ 1073741824 < x := by omega
  have e : hasB l x = memB l x := by unfold hasB; rw [decide_eq_true (by omega), decide_eq_true (by omega)]; rfl
  rw [e]
  clear hx e
  go_enter Try.func20, Try.ntmps20
  go_wp2_with fail
  go_loopw [15] (fun i wr => ∃ k : Nat, k ≤ n ∧ i = .int .i64 k ∧ Spans wr A n l ∧ Below w.heap.size w wr ∧ Hid (memB (l.drop k) x = memB l x)) (fun i _ => n - (intOf i).toNat)
  case atStart => exact ⟨0, Nat.zero_le _, rfl, H.out, Below.refl _ _, rfl⟩
  case round =>
    obtain ⟨k, hk, rfl, hS, hb, hal⟩ := hrel
    have HB := Lib.hid hb
    have HS := Lib.hid hS
    clear hb hS
    by_cases hlt : k < n
    · obtain ⟨b, off, p, rfl, hx, hc1, hc2⟩ := HS.out.at_ hlt
      have HX := Lib.hid (memB_drop l k p x (drop_cons? hx))
      clear hx
      go_wp2_with fail
      all_goals first
        | (go_ret
           refine ⟨ret_bool ?_, HB.out.alloc HB.out.size _⟩
           rw [← hal.out, HX.out, decide_eq_true (by omega), decide_eq_true (by omega)]
           rfl)
        | (go_roundw
           case rel =>
             refine ⟨k + 1, by omega, by go_num, HS.out.alloc _, HB.out.alloc HB.out.size _, ?_⟩
             unfold Hid
             rw [← hal.out, HX.out]
             first
               | (rw [decide_eq_false (by omega)]; rfl)
               | (rw [decide_eq_false (p := x ≤ p.2) (by omega), Bool.and_false]; rfl)
           case measure => simp [intOf]; omega)
    · go_wp2_with fail
      go_ret
      refine ⟨ret_bool ?_, HB.out⟩
      rw [← hal.out, List.drop_of_length_le (by have := HS.out.len; omega)]
      rfl
end Go.Proofs.Ytlmkokeapbleoaa
end
section
namespace Go.Proofs.Ytlmkokeapbleoaa
open Go.RowKit
theorem one2 {x y : Value} (h : x.oneCell' = true) (k : y.oneCell' = true) : ∀ u ∈ [x, y], u.oneCell' = true := by
  intro u hu; simp at hu; rcases hu with rfl | rfl
  · exact h
  · exact k
def Rise (xs : List Int) : Prop := ∀ (i j : Nat) (x y : Int), i < j → xs[i]? = some x → xs[j]? = some y → x < y
end Go.Proofs.Ytlmkokeapbleoaa
end
section
namespace Go.Proofs.Ytlmkokeapbleoaa
open Go.RowKit
def BInv (done : List Sp) (ys : List Int) : Prop :=
  Rise ys ∧ (-1073741824) ∈ ys ∧ (∀ y ∈ ys, -1073741824 ≤ y ∧ y ≤ 1073741824) ∧
  (∀ p ∈ done, (-1073741824 < p.1 → p.1 ≤ 1073741824 → p.1 ∈ ys) ∧ (-1073741824 ≤ p.2 → p.2 < 1073741824 → p.2 + 1 ∈ ys)) ∧ ys.length ≤ 2 * done.length + 1
theorem BInv.start : BInv [] [-1073741824] := by
  refine ⟨fun i j x y hij hx hy => ?_, by simp, by simp, by simp, by simp⟩
  have := (List.getElem?_eq_some_iff.1 hy).1
  simp at this; omega
end Go.Proofs.Ytlmkokeapbleoaa
end
section
namespace Go.Proofs.Ytlmkokeapbleoaa
open Go.RowKit
def inHow (how : Int) (x y : Bool) : Bool := if how = 1 then x && y else if how = 2 then x && !y else x || y
def madeB (how : Int) (a b : List Sp) (x : Int) : Bool := inHow how (hasB a x) (hasB b x)
def lim (ys : List Int) (i : Nat) : Int := (ys[i]?).getD 1073741825
theorem hasB_next {done : List Sp} {ys : List Int} (h : BInv done ys) (a : List Sp) (ha : ∀ p ∈ a, p ∈ done) (x : Int) (hx0 : -1073741824 ≤ x) (hx1 : x < 1073741824) (hn : x + 1 ∉ ys) : hasB a x = hasB a (x + 1) := by
  rw [Bool.eq_iff_iff, hasB_iff, hasB_iff]
  unfold Mem
  have key : InS a x ↔ InS a (x + 1) := by
    rw [InS_iff, InS_iff]
    constructor
    · rintro ⟨p, hp, h1, h2⟩
      refine ⟨p, hp, by omega, ?_⟩
      have := (h.2.2.2.1 p (ha p hp)).2
      by_cases e : p.2 = x
      · exact absurd (e ▸ this (by omega) (by omega)) hn
      · omega
    · rintro ⟨p, hp, h1, h2⟩
      refine ⟨p, hp, ?_, by omega⟩
      have := (h.2.2.2.1 p (ha p hp)).1
      by_cases e : p.1 = x + 1
      · exact absurd (e ▸ this (by omega) (by omega)) hn
      · omega
  rw [key]
  exact ⟨fun ⟨_, _, g⟩ => ⟨by omega, by omega, g⟩, fun ⟨_, _, g⟩ => ⟨by omega, by omega, g⟩⟩
theorem lim_lt {ys : List Int} (h : Rise ys) (hb : ∀ y ∈ ys, -1073741824 ≤ y ∧ y ≤ 1073741824) (i : Nat) (y : Int) (hi : ys[i]? = some y) : y < lim ys (i + 1) ∧ lim ys (i + 1) ≤ 1073741825 := by
  unfold lim
  cases e : ys[i + 1]? with
  | none => have := hb y (List.mem_of_getElem? hi); simp; omega
  | some z =>
    have := h i (i + 1) y z (by omega) hi e
    have := hb z (List.mem_of_getElem? e)
    simp; omega
theorem no_border {ys : List Int} (h : Rise ys) (i : Nat) (y x : Int) (hi : ys[i]? = some y) (h1 : y < x) (h2 : x < lim ys (i + 1)) : x ∉ ys := by
  intro hx
  obtain ⟨j, hj⟩ := List.getElem?_of_mem hx
  rcases Nat.lt_trichotomy i j with g | g | g
  · unfold lim at h2
    rcases Nat.lt_trichotomy (i + 1) j with g' | g' | g'
    · have hl := (List.getElem?_eq_some_iff.1 hj).1
      have e : ys[i + 1]? = some (ys[i + 1]'(by omega)) := List.getElem?_eq_getElem (by omega)
      have := h (i + 1) j _ x g' e hj
      rw [e] at h2; simp at h2; omega
    · subst g'; rw [hj] at h2; simp at h2
    · omega
  · subst g; rw [hi] at hj; simp at hj; omega
  · have := h j i x y g hj hi; omega
theorem alike {done : List Sp} {ys : List Int} (h : BInv done ys) (a : List Sp) (ha : ∀ p ∈ a, p ∈ done) (i : Nat) (y : Int) (hi : ys[i]? = some y) (d : Nat) (hd : y + d < lim ys (i + 1)) : hasB a (y + d) = hasB a y := by
  induction d with
  | zero => simp
  | succ d ih =>
    have hy := h.2.2.1 y (List.mem_of_getElem? hi)
    have hl := lim_lt h.1 h.2.2.1 i y hi
    rw [← ih (by omega)]
    have := hasB_next h a ha (y + d) (by omega) (by omega) (no_border h.1 i y _ hi (by omega) (by omega))
    rw [this]
    congr 1
    omega
theorem made_alike {a b : List Sp} {ys : List Int} (how : Int) (h : BInv (a ++ b) ys) (i : Nat) (y x : Int) (hi : ys[i]? = some y) (h1 : y ≤ x) (h2 : x < lim ys (i + 1)) : madeB how a b x = madeB how a b y := by
  unfold madeB
  obtain ⟨d, rfl⟩ : ∃ d : Nat, x = y + d := ⟨(x - y).toNat, by omega⟩
  rw [alike h a (fun p hp => by simp [hp]) i y hi d h2, alike h b (fun p hp => by simp [hp]) i y hi d h2]
def MInv (how : Int) (a b : List Sp) (ys : List Int) (i : Nat) (out : List Sp) : Prop := Plain out ∧ (∀ x, InS out x ↔ (madeB how a b x = true ∧ x < lim ys i)) ∧ out.length ≤ i
theorem made_low (how : Int) (a b : List Sp) (x : Int) (h : madeB how a b x = true) : -1073741824 ≤ x ∧ x ≤ 1073741824 := by
  have key : ∀ l : List Sp, hasB l x = true → -1073741824 ≤ x ∧ x ≤ 1073741824 := fun l hl => ⟨((hasB_iff l x).1 hl).1, ((hasB_iff l x).1 hl).2.1⟩
  unfold madeB inHow at h
  split at h
  · simp at h; exact key a h.1
  split at h
  · simp at h; exact key a h.1
  · simp at h; rcases h with h | h
    · exact key a h
    · exact key b h
theorem MInv.start (how : Int) (a b : List Sp) (ys : List Int) (h : BInv (a ++ b) ys) : MInv how a b ys 0 [] := by
  refine ⟨trivial, fun x => ?_, by simp⟩
  simp only [InS, false_iff, not_and]
  intro hx hl
  have := made_low how a b x hx
  obtain ⟨j, hj⟩ := List.getElem?_of_mem h.2.1
  have hne : lim ys 0 ≤ -1073741824 := by
    unfold lim
    cases e : ys[0]? with
    | none => have h2 := (List.getElem?_eq_some_iff.1 hj).1; rw [List.getElem?_eq_none_iff] at e; omega
    | some z =>
      simp
      rcases Nat.eq_zero_or_pos j with g | g
      · subst g; rw [hj] at e; simp at e; omega
      · have := h.1 0 j z _ g e hj; omega
  omega
theorem InS_split {ys : List Int} {how : Int} {a b : List Sp} {i : Nat} {y : Int} (h : BInv (a ++ b) ys) (hi : ys[i]? = some y) {out : List Sp} (hm : MInv how a b ys i out) (x : Int) :
    (madeB how a b x = true ∧ x < lim ys (i + 1)) ↔ (InS out x ∨ (madeB how a b y = true ∧ y ≤ x ∧ x < lim ys (i + 1))) := by
  have hl := lim_lt h.1 h.2.2.1 i y hi
  have e : lim ys i = y := by unfold lim; rw [hi]; rfl
  rw [hm.2.1 x, e]
  constructor
  · rintro ⟨h1, h2⟩
    by_cases g : x < y
    · exact .inl ⟨h1, g⟩
    · exact .inr ⟨(made_alike how h i y x hi (by omega) h2) ▸ h1, by omega, h2⟩
  · rintro (⟨h1, h2⟩ | ⟨h1, h2, h3⟩)
    · exact ⟨h1, by omega⟩
    · exact ⟨(made_alike how h i y x hi h2 h3).trans h1, h3⟩
theorem InS_last {l : List Sp} {q : Sp} (x : Int) : InS (l ++ [q]) x ↔ (InS l x ∨ (q.1 ≤ x ∧ x ≤ q.2)) := by rw [InS_append]; simp [InS]
theorem MInv.merge {ys : List Int} {how : Int} {a b : List Sp} {i : Nat} {y : Int} (h : BInv (a ++ b) ys) (hi : ys[i]? = some y) {l : List Sp} {q : Sp} (hm : MInv how a b ys i (l ++ [q])) (hin : madeB how a b y = true) (hq : q.2 = y - 1) :
    MInv how a b ys (i + 1) (l ++ [(q.1, lim ys (i + 1) - 1)]) := by
  have hl := lim_lt h.1 h.2.2.1 i y hi
  obtain ⟨p1, p2, p3⟩ := hm
  obtain ⟨l1, l2, l3, l4⟩ := PlainF.last p1
  refine ⟨PlainF.snoc (PlainF.init p1) l1 l2 (by simp only; omega) (by simp only; omega), fun x => ?_, by simp at *; omega⟩
  rw [InS_split h hi ⟨p1, p2, p3⟩ x, InS_last, InS_last, hin]
  simp only [true_and]
  constructor
  · rintro (g | ⟨g1, g2⟩)
    · exact .inl (.inl g)
    · by_cases g3 : x ≤ q.2
      · exact .inl (.inr ⟨g1, g3⟩)
      · exact .inr ⟨by omega, by omega⟩
  · rintro ((g | ⟨g1, g2⟩) | ⟨g1, g2⟩)
    · exact .inl g
    · exact .inr ⟨g1, by omega⟩
    · exact .inr ⟨by omega, by omega⟩
theorem MInv.push {ys : List Int} {how : Int} {a b : List Sp} {i : Nat} {y : Int} (h : BInv (a ++ b) ys) (hi : ys[i]? = some y) {out : List Sp} (hm : MInv how a b ys i out) (hin : madeB how a b y = true) (hq : ∀ l q, out = l ++ [q] → q.2 ≠ y - 1) :
    MInv how a b ys (i + 1) (out ++ [(y, lim ys (i + 1) - 1)]) := by
  have hl := lim_lt h.1 h.2.2.1 i y hi
  have hy := h.2.2.1 y (List.mem_of_getElem? hi)
  obtain ⟨p1, p2, p3⟩ := hm
  have e : lim ys i = y := by unfold lim; rw [hi]; rfl
  have hlt : ∀ p ∈ out, p.2 + 1 < y := by
    rcases List.eq_nil_or_concat out with rfl | ⟨l, q, eo⟩
    · simp
    · rw [List.concat_eq_append] at eo
      subst eo
      obtain ⟨l1, l2, l3, l4⟩ := PlainF.last p1
      have h1 : q.2 < y := by
        have := (p2 q.2).1 ((InS_last _).2 (.inr ⟨l3, Int.le_refl _⟩))
        omega
      have h2 := hq l q rfl
      intro p hp
      rcases List.mem_append.1 hp with hp | hp
      · have := l2 p hp; omega
      · simp at hp; subst hp; omega
  refine ⟨PlainF.snoc p1 (by omega) hlt (by simp only; omega) (by simp only; omega), fun x => ?_, by simp; omega⟩
  rw [InS_split h hi ⟨p1, p2, p3⟩ x, InS_last, hin]
  simp only [true_and]
  constructor
  · rintro (g | ⟨g1, g2⟩)
    · exact .inl g
    · exact .inr ⟨g1, by omega⟩
  · rintro (g | ⟨g1, g2⟩)
    · exact .inl g
    · exact .inr ⟨g1, by omega⟩
theorem MInv.rep {ys : List Int} {how : Int} {a b : List Sp} {out : List Sp} (hm : MInv how a b ys ys.length out) : Rep out (fun x => madeB how a b x = true) := by
  refine ⟨hm.1, fun x => ?_⟩
  rw [hm.2.1 x]
  constructor
  · exact fun g => g.1
  · intro g
    refine ⟨g, ?_⟩
    have := made_low how a b x g
    unfold lim
    rw [List.getElem?_eq_none (Nat.le_refl _)]
    simp; omega
end Go.Proofs.Ytlmkokeapbleoaa
end
section
namespace Go.Proofs.Ytlmkokeapbleoaa
open Go.RowKit
theorem info59 : (Try.prog.info? 35).map (fun i => (i.zero, i.size, i.bytes)) = some (some (.agg #[.int .i64 0, .int .i64 0]), 2, 16) := by kernel_rfl
def Fresh (B : Nat) (e : Ending) : Prop := ∃ A n c, e = .returned (.slice A n c) ∧ (n = 0 ∨ ∃ g, A = some ⟨g, 0, none⟩ ∧ B ≤ g)
theorem Fresh.of_own {w' : World} {B base size n : Nat} {t : TypeId} {v : Value} {xs : List Value} (h : w'.ownsRow base t size v n xs) (hB : B ≤ base) : Fresh B (.returned v) := by
  rcases id h.2 with ⟨rfl, h0⟩ | ⟨g, cap, cur, rfl, hg, _⟩
  · exact ⟨_, _, _, rfl, .inl rfl⟩
  · exact ⟨_, _, _, rfl, .inr ⟨g, rfl, Nat.le_trans hB hg⟩⟩
theorem NewSpans.of_own {w w' : World} {l : List Sp} {v : Value} {n base : Nat} {t : TypeId} (h : w'.ownsRow base t 2 v n (spanCells l)) (hb : Below w.heap.size w w') : NewSpans w l (.returned v) w' := by
  rcases id h with ⟨h1, ⟨rfl, rfl⟩ | ⟨g, cap, cur, rfl, _, _, hn, hc, _⟩⟩
  · exact ⟨none, 0, 0, rfl, Sl.of_own h, by omega, by omega, hb⟩
  · exact ⟨_, n, cap, rfl, Sl.of_own h, hn, hc, hb⟩
theorem spanCells_set (l : List Sp) (q : Sp) (t9 : Int) : (spanCells (l ++ [q])).set (l.length * 2 + 1) (.int .i64 t9) = spanCells (l ++ [(q.1, t9)]) := by
  rw [spanCells_append, spanCells_append, List.set_append_right _ _ (by rw [spanCells_length]; omega), spanCells_length]
  have : l.length * 2 + 1 - l.length * 2 = 1 := by omega
  rw [this]
  rfl
theorem snoc_cases (l : List Sp) : l = [] ∨ ∃ m q, l = m ++ [q] := by
  rcases List.eq_nil_or_concat l with rfl | ⟨m, q, e⟩
  · exact .inl rfl
  · exact .inr ⟨m, q, by rw [e, List.concat_eq_append]⟩
end Go.Proofs.Ytlmkokeapbleoaa
end
section
namespace Go.Proofs.Ytlmkokeapbleoaa
open Go.RowKit
def clip (p : Sp) : Sp := (max p.1 (-1073741824), min p.2 1073741824)
def clips : List Sp → List Sp
  | [] => []
  | p :: l => if (clip p).1 ≤ (clip p).2 then clip p :: clips l else clips l
theorem clips_append (l m : List Sp) : clips (l ++ m) = clips l ++ clips m := by
  induction l with
  | nil => rfl
  | cons p l ih => simp only [List.cons_append, clips, ih]; split <;> rfl
theorem clips_length (l : List Sp) : (clips l).length ≤ l.length := by
  induction l with
  | nil => simp [clips]
  | cons p l ih => simp only [clips]; split <;> simp <;> omega
theorem clips_mem {l : List Sp} {p : Sp} (h : p ∈ clips l) : -1073741824 ≤ p.1 ∧ p.1 ≤ p.2 ∧ p.2 ≤ 1073741824 := by
  induction l with
  | nil => cases h
  | cons q l ih =>
    simp only [clips] at h
    split at h
    · rename_i hq
      rcases List.mem_cons.1 h with rfl | h
      · refine ⟨?_, hq, ?_⟩ <;> simp only [clip] <;> omega
      · exact ih h
    · exact ih h
theorem clips_InS (l : List Sp) (x : Int) : InS (clips l) x ↔ Mem l x := by
  unfold Mem
  induction l with
  | nil => simp [clips, InS]
  | cons q l ih =>
    simp only [clips, InS]
    split
    · simp only [InS, ih]
      simp only [clip]
      constructor
      · rintro (⟨h1, h2⟩ | ⟨h1, h2, h3⟩)
        · exact ⟨by omega, by omega, .inl ⟨by omega, by omega⟩⟩
        · exact ⟨h1, h2, .inr h3⟩
      · rintro ⟨h1, h2, h3 | h3⟩
        · exact .inl ⟨by omega, by omega⟩
        · exact .inr ⟨h1, h2, h3⟩
    · rename_i hq
      rw [ih]
      simp only [clip] at hq
      constructor
      · rintro ⟨h1, h2, h3⟩; exact ⟨h1, h2, .inr h3⟩
      · rintro ⟨h1, h2, h3 | h3⟩
        · omega
        · exact ⟨h1, h2, h3⟩
theorem InS_perm {l m : List Sp} (h : l.Perm m) (x : Int) : InS l x ↔ InS m x := by
  rw [InS_iff, InS_iff]
  exact ⟨fun ⟨p, hp, g⟩ => ⟨p, h.mem_iff.1 hp, g⟩, fun ⟨p, hp, g⟩ => ⟨p, h.mem_iff.2 hp, g⟩⟩
structure NInv (l : List Sp) (i : Nat) (o : List Sp) : Prop where
  plain : Plain o
  same : ∀ x, InS o x ↔ InS (l.take i) x
  len : o.length ≤ i
  low : ∀ p ∈ o, ∀ y ∈ l.drop i, p.1 ≤ y.1
def Srt (l : List Sp) : Prop := l.Pairwise (fun p q => p.1 ≤ q.1) ∧ ∀ p ∈ l, -1073741824 ≤ p.1 ∧ p.1 ≤ p.2 ∧ p.2 ≤ 1073741824
theorem NInv.start (l : List Sp) : NInv l 0 [] := ⟨trivial, fun x => by simp [InS], by simp, by simp⟩
theorem srt_later {l : List Sp} (h : Srt l) {i : Nat} {x : Sp} (hi : l[i]? = some x) : ∀ y ∈ l.drop (i + 1), x.1 ≤ y.1 := by
  have h1 : (l.drop i).Pairwise (fun p q => p.1 ≤ q.1) := h.1.sublist (List.drop_sublist _ _)
  rw [drop_cons? hi] at h1
  exact (List.pairwise_cons.1 h1).1
theorem NInv.push {l o : List Sp} {i : Nat} {x : Sp} (hs : Srt l) (h : NInv l i o) (hi : l[i]? = some x) (hg : ∀ m q, o = m ++ [q] → q.2 + 1 < x.1) : NInv l (i + 1) (o ++ [x]) := by
  have hx := hs.2 x (List.mem_of_getElem? hi)
  refine ⟨?_, fun z => ?_, by have := h.len; simp; omega, ?_⟩
  · refine PlainF.snoc h.plain (by omega) (fun p hp => ?_) hx.2.1 hx.2.2
    rcases snoc_cases o with rfl | ⟨m, q, rfl⟩
    · cases hp
    · have hq := hg m q rfl
      have hl := PlainF.last h.plain
      rcases List.mem_append.1 hp with hp | hp
      · have := hl.2.1 p hp; omega
      · simp at hp; subst hp; exact hq
  · rw [take_snoc? hi, InS_append, InS_append, h.same]
  · intro p hp y hy
    rcases List.mem_append.1 hp with hp | hp
    · exact h.low p hp y (by rw [drop_cons? hi]; exact List.mem_cons_of_mem _ hy)
    · simp at hp; subst hp; exact srt_later hs hi y hy
theorem NInv.merge {l m : List Sp} {i : Nat} {x q : Sp} (hs : Srt l) (h : NInv l i (m ++ [q])) (hi : l[i]? = some x) (hg : x.1 ≤ q.2 + 1) : NInv l (i + 1) (m ++ [(q.1, max q.2 x.2)]) := by
  have hx := hs.2 x (List.mem_of_getElem? hi)
  have hl := PlainF.last h.plain
  have hq : q.1 ≤ x.1 := h.low q (by simp) x (by rw [drop_cons? hi]; simp)
  have hp0 : PlainF (-1073741826) (m ++ [q]) := h.plain
  have hqa : q.1 ∈ [q.1] := by simp
  have hqq : InS (m ++ [q]) q.1 := (InS_append _ _ _).2 (.inr (.inl ⟨by omega, hl.2.2.1⟩))
  have hql := hp0.low hqq
  refine ⟨?_, fun z => ?_, by have := h.len; simp at *; omega, ?_⟩
  · exact PlainF.snoc (PlainF.init hp0) hql (fun p hp => hl.2.1 p hp) (by simp only; omega) (by simp only; omega)
  · rw [take_snoc? hi, InS_append (l.take i), ← h.same, InS_append, InS_append]
    simp only [InS, or_false]
    constructor
    · rintro (g | g)
      · exact .inl (.inl g)
      · by_cases e : z ≤ q.2
        · exact .inl (.inr ⟨g.1, e⟩)
        · exact .inr ⟨by omega, by omega⟩
    · rintro ((g | g) | g)
      · exact .inl g
      · exact .inr ⟨g.1, by omega⟩
      · exact .inr ⟨by omega, by omega⟩
  · intro p hp y hy
    have hy' : y ∈ l.drop i := by rw [drop_cons? hi]; exact List.mem_cons_of_mem _ hy
    rcases List.mem_append.1 hp with hp | hp
    · exact h.low p (by simp [hp]) y hy'
    · simp at hp; subst hp; exact h.low q (by simp) y hy'
theorem NInv.rep {l l0 o : List Sp} (h : NInv l l.length o) (hp : l.Perm (clips l0)) : Rep o (Mem l0) := by
  refine ⟨h.plain, fun x => ?_⟩
  rw [h.same, List.take_length, InS_perm hp, clips_InS]
theorem own_cut {w : World} {base : Nat} {t : TypeId} {g n cap k : Nat} {M o : List Sp} (h : w.ownsRow base t 2 (.slice (some ⟨g, 0, none⟩) n cap) n (spanCells M)) (hk : k ≤ n) (ho : M.take k = o) : w.ownsRow base t 2 (.slice (some ⟨g, 0, none⟩) k cap) k (spanCells o) := by
  subst ho
  have hM : M.length = n := by have := h.1; rw [spanCells_length] at this; omega
  rcases h.2 with ⟨e0, _⟩ | ⟨g', cap', cur, e0, hb, hg, hn, hm, hs, ht⟩
  · cases e0
  · injection e0 with e1 _ e3
    injection e1 with e1
    injection e1 with e1
    subst e1; subst e3
    refine ⟨by rw [spanCells_length]; simp; omega, .inr ⟨g, cap, cur, rfl, hb, hg, by omega, hm, hs, ?_⟩⟩
    have e : spanCells M = spanCells (M.take k) ++ spanCells (M.drop k) := by rw [← spanCells_append, List.take_append_drop]
    have e2 : cur.toList.take (k * 2) = (cur.toList.take (n * 2)).take (k * 2) := by rw [List.take_take, Nat.min_eq_left (by omega)]
    rw [e2, ht, e, List.take_append_of_le_length (by rw [spanCells_length]; simp; omega), List.take_of_length_le (by rw [spanCells_length]; simp; omega)]
theorem spanCells_put (M : List Sp) (k : Nat) (x : Sp) (hk : k < M.length) : (spanCells M).take (k * 2) ++ [.int .i64 x.1, .int .i64 x.2] ++ (spanCells M).drop (k * 2 + 2) = spanCells (M.set k x) := by
  induction M generalizing k with
  | nil => simp at hk
  | cons q M ih =>
    have e : ∀ (q : Sp) M, spanCells (q :: M) = .int .i64 q.1 :: .int .i64 q.2 :: spanCells M := fun q M => by simp [spanCells]
    cases k with
    | zero => simp [e]
    | succ k =>
      have := ih k (by simpa using hk)
      simp only [List.set_cons_succ, e, show (k + 1) * 2 = k * 2 + 1 + 1 from by omega, show k * 2 + 1 + 1 + 2 = (k * 2 + 2) + 1 + 1 from by omega, List.take_succ_cons, List.drop_succ_cons, List.cons_append]
      rw [this]
theorem take_three (c news : List Value) (a b : Nat) (hn : news.length = 2) (hk : a + 2 ≤ b) (hl : b ≤ c.length) : (c.take a ++ news ++ c.drop (a + 2)).take b = c.take a ++ news ++ (c.drop (a + 2)).take (b - (a + 2)) := by
  have h1 : (c.take a ++ news).length = a + 2 := by simp; omega
  rw [List.take_append, h1, List.take_of_length_le (by omega)]
theorem wpList_room {P : Program} {w0 : World} {ops : Array Oper} {rest : List Oper} {o : Oper} {a : Act} {Q : Exit → Act → World → Prop} (hgd : o.guard = none) (s x : Operand) (t : TypeId)
    (ho : o.op = .call { callee := .builtin .append, args := #[s, x], argTypes := #[t, t] })
    (base : Nat) (e : TypeId) (i : TypeInfo) (ht : P.underlying t = some (.slice e)) (hi : P.info? e = some i) (hsize : i.size = 2)
    {g n cap k : Nat} {M : List Sp} (hown : w0.ownsRow base e 2 (.slice (some ⟨g, 0, none⟩) n cap) n (spanCells M)) (hk : k < n) (hs : a.eval s = .slice (some ⟨g, 0, none⟩) k cap)
    (y : Sp) (e' : TypeId) (hx : a.eval x = .slice (some ⟨w0.heap.size, 0, none⟩) 1 1)
    (h : ∀ w', w'.ownsRow base e 2 (.slice (some ⟨g, 0, none⟩) n cap) n (spanCells (M.set k y)) → (w0.alloc (.cells #[.int .i64 y.1, .int .i64 y.2] e')).grownBy w' (some g) → wpList P ops Q rest (a.put o.dst (.slice (some ⟨g, 0, none⟩) (k + 1) cap)) w') :
    wpList P ops Q (o :: rest) a (w0.alloc (.cells #[.int .i64 y.1, .int .i64 y.2] e')) := by
  have hM : M.length = n := by have := hown.1; rw [spanCells_length] at this; omega
  have hal := hown.alloc (.cells #[.int .i64 y.1, .int .i64 y.2] e')
  have key : ∃ w', (Builtin.append_ #[t, t] o.type #[.slice (some ⟨g, 0, none⟩) k cap, .slice (some ⟨w0.heap.size, 0, none⟩) 1 1]).run P (w0.alloc (.cells #[.int .i64 y.1, .int .i64 y.2] e')) = .ok (.slice (some ⟨g, 0, none⟩) (k + 1) cap) w' ∧
      w'.ownsRow base e 2 (.slice (some ⟨g, 0, none⟩) n cap) n (spanCells (M.set k y)) ∧ (w0.alloc (.cells #[.int .i64 y.1, .int .i64 y.2] e')).grownBy w' (some g) := by
    rcases hal.2 with ⟨e0, _⟩ | ⟨g', cap', cur, e0, hb, hg, hn, hm, hcs, htk⟩
    · cases e0
    · injection e0 with e1 _ e3
      injection e1 with e1
      injection e1 with e1
      subst e1; subst e3
      have hr := run_append_room (P := P) (w0.alloc (.cells #[.int .i64 y.1, .int .i64 y.2] e')) t o.type e i ht hi g k cap cur hg ⟨w0.heap.size, 0, none⟩ 1 1 [.int .i64 y.1, .int .i64 y.2] (by rw [hsize]; rfl)
        (fun j u hu => by
          have e : (⟨w0.heap.size, 0, none⟩ : Addr).add j = ⟨w0.heap.size, 0 + j, none⟩ := by unfold Addr.add; split <;> simp_all
          rw [e]
          have hb := heap_alloc_new w0 (.cells #[.int .i64 y.1, .int .i64 y.2] e')
          simp only [World.cell?, hb]
          simpa using hu)
        (by intro u hu; simp at hu; rcases hu with rfl | rfl <;> rfl) (by omega) (by rw [hsize, hcs]; simp; omega)
      refine ⟨_, hr, ⟨by rw [spanCells_length]; simp [hM], .inr ⟨g, cap, _, rfl, hb, setRow_heap _ g cur _ e _ hg, hn, hm, ?_, ?_⟩⟩, ⟨rfl, rfl, rfl, by simp, fun j _ hj => setRow_other _ g j _ (fun e => hj (by simp [e]))⟩⟩
      · simp only [List.size_toArray, List.length_append, List.length_take, List.length_drop, Array.length_toList, hsize, List.length_cons, List.length_nil]
        omega
      · rw [← spanCells_put M k y (by omega), ← htk, hsize]
        simp only [List.length_cons, List.length_nil]
        have hlen : cur.toList.length = cap * 2 := by simpa using hcs
        rw [List.take_take, Nat.min_eq_left (by omega), List.drop_take]
        exact take_three _ _ _ _ rfl (by omega) (by omega)
  obtain ⟨w', hr, h2, h3⟩ := key
  refine wpList_plain hgd fun K hK => ?_
  unfold Oper.wp execOp
  simp only [ho, resolve, invoke, builtin, Sem.run_bind, Sem.run_pure, Result.andThen_ok, List.map_toArray, List.map_cons, List.map_nil, hs, hx, hr]
  exact hK _ _ (h w' h2 h3)
theorem room_push (o J ls : List Sp) (i : Nat) (x : Sp) (hi : ls[i]? = some x) (hl : o.length + J.length = i) : ∃ J', (o ++ J ++ ls.drop i).set o.length x = (o ++ [x]) ++ J' ++ ls.drop (i + 1) ∧ (o ++ [x]).length + J'.length = i + 1 := by
  cases J with
  | nil =>
    refine ⟨[], ?_, by simp at *; omega⟩
    rw [drop_cons? hi]
    simp
  | cons y J =>
    refine ⟨J ++ [x], ?_, by simp at *; omega⟩
    rw [drop_cons? hi]
    simp
theorem room_merge (m J ls : List Sp) (q : Sp) (i : Nat) (x : Sp) (z : Int) (hi : ls[i]? = some x) (hl : (m ++ [q]).length + J.length = i) :
    ∃ J', (spanCells ((m ++ [q]) ++ J ++ ls.drop i)).set (m.length * 2 + 1) (.int .i64 z) = spanCells ((m ++ [(q.1, z)]) ++ J' ++ ls.drop (i + 1)) ∧ (m ++ [(q.1, z)]).length + J'.length = i + 1 := by
  refine ⟨J ++ [x], ?_, by simp at *; omega⟩
  have e : (m ++ [(q.1, z)]) ++ (J ++ [x]) ++ ls.drop (i + 1) = (m ++ [(q.1, z)]) ++ (J ++ ls.drop i) := by rw [drop_cons? hi]; simp
  rw [e, List.append_assoc, spanCells_append (m ++ [q]), spanCells_append (m ++ [(q.1, z)]), ← spanCells_set m q z]
  exact List.set_append_left _ _ (by rw [spanCells_length]; simp; omega)
theorem row_at (o J ls : List Sp) (i : Nat) (x : Sp) (hi : ls[i]? = some x) (hl : o.length + J.length = i) : (o ++ J ++ ls.drop i)[i]? = some x := by
  rw [List.getElem?_append_right (by simp; omega), List.getElem?_drop]
  rw [← hi]; congr 1; simp; omega
theorem row_last (m J ls : List Sp) (q : Sp) (i : Nat) : ((m ++ [q]) ++ J ++ ls.drop i)[m.length]? = some q := by simp
end Go.Proofs.Ytlmkokeapbleoaa
end
section
namespace Go.Proofs.Ytlmkokeapbleoaa
open Go.RowKit
structure MtInv (r s p q o : List Sp) : Prop where
  pl : ∃ a, -1073741826 ≤ a ∧ PlainF a p
  ql : ∃ a, -1073741826 ≤ a ∧ PlainF a q
  plain : Plain o
  same : ∀ x, (InS o x ∨ (InS p x ∧ InS q x)) ↔ (InS r x ∧ InS s x)
  sep : ∀ t ∈ o, ∀ x, InS p x → InS q x → t.2 + 1 < x
theorem MtInv.start {r s : List Sp} (hr : Plain r) (hs : Plain s) : MtInv r s r s [] := ⟨⟨_, Int.le_refl _, hr⟩, ⟨_, Int.le_refl _, hs⟩, trivial, fun x => by simp [InS], by simp⟩
theorem MtInv.rep {r s p q o : List Sp} {S T : Int → Prop} (h : MtInv r s p q o) (he : p = [] ∨ q = []) (hr : Rep r S) (hs : Rep s T) : Rep o (fun x => S x ∧ T x) := by
  refine ⟨h.plain, fun x => ?_⟩
  have := h.same x
  rw [hr.2, hs.2] at this
  show InS o x ↔ (S x ∧ T x)
  rw [← this]
  rcases he with rfl | rfl <;> simp [InS]
def both (x y : Sp) : List Sp := if max x.1 y.1 ≤ min x.2 y.2 then [(max x.1 y.1, min x.2 y.2)] else []
theorem both_InS (x y : Sp) (z : Int) : InS (both x y) z ↔ (x.1 ≤ z ∧ z ≤ x.2) ∧ (y.1 ≤ z ∧ z ≤ y.2) := by
  unfold both
  split
  · simp only [InS, or_false]; omega
  · rename_i h; simp only [InS, false_iff]; omega
theorem both_mem {x y t : Sp} (h : t ∈ both x y) : t = (max x.1 y.1, min x.2 y.2) ∧ max x.1 y.1 ≤ min x.2 y.2 := by
  unfold both at h
  split at h
  · rename_i g; simp at h; exact ⟨h, g⟩
  · cases h
theorem MtInv.left {r s p q o : List Sp} {x y : Sp} (h : MtInv r s (x :: p) (y :: q) o) (hc : x.2 < y.2) : MtInv r s p (y :: q) (o ++ both x y) := by
  obtain ⟨a, ha, h1, h2, h3, h4⟩ := h.pl
  obtain ⟨b, hb, g1, g2, g3, g4⟩ := h.ql
  refine ⟨⟨x.2, by omega, h4⟩, ⟨b, hb, g1, g2, g3, g4⟩, ?_, fun z => ?_, ?_⟩
  · unfold both
    split
    · rename_i hm
      refine PlainF.snoc h.plain (by simp only; omega) (fun t ht => ?_) hm (by simp only; omega)
      exact h.sep t ht _ (.inl ⟨by simp only; omega, by simp only; omega⟩) (.inl ⟨by simp only; omega, by simp only; omega⟩)
    · rw [List.append_nil]; exact h.plain
  · rw [← h.same z, InS_append, both_InS]
    constructor
    · rintro ((e | e) | e)
      · exact .inl e
      · exact .inr ⟨.inl e.1, .inl e.2⟩
      · exact .inr ⟨.inr e.1, e.2⟩
    · rintro (e | ⟨e1 | e1, e2⟩)
      · exact .inl (.inl e)
      · rcases e2 with e2 | e2
        · exact .inl (.inr ⟨e1, e2⟩)
        · have := g4.low e2; omega
      · exact .inr ⟨e1, e2⟩
  · intro t ht z hp hq
    rcases List.mem_append.1 ht with ht | ht
    · exact h.sep t ht z (.inr hp) hq
    · obtain ⟨rfl, _⟩ := both_mem ht
      have := h4.low hp
      simp only; omega
theorem MtInv.right {r s p q o : List Sp} {x y : Sp} (h : MtInv r s (x :: p) (y :: q) o) (hc : ¬ x.2 < y.2) : MtInv r s (x :: p) q (o ++ both x y) := by
  obtain ⟨a, ha, h1, h2, h3, h4⟩ := h.pl
  obtain ⟨b, hb, g1, g2, g3, g4⟩ := h.ql
  refine ⟨⟨a, ha, h1, h2, h3, h4⟩, ⟨y.2, by omega, g4⟩, ?_, fun z => ?_, ?_⟩
  · unfold both
    split
    · rename_i hm
      refine PlainF.snoc h.plain (by simp only; omega) (fun t ht => ?_) hm (by simp only; omega)
      exact h.sep t ht _ (.inl ⟨by simp only; omega, by simp only; omega⟩) (.inl ⟨by simp only; omega, by simp only; omega⟩)
    · rw [List.append_nil]; exact h.plain
  · rw [← h.same z, InS_append, both_InS]
    constructor
    · rintro ((e | e) | e)
      · exact .inl e
      · exact .inr ⟨.inl e.1, .inl e.2⟩
      · exact .inr ⟨e.1, .inr e.2⟩
    · rintro (e | ⟨e1, e2 | e2⟩)
      · exact .inl (.inl e)
      · rcases e1 with e1 | e1
        · exact .inl (.inr ⟨e1, e2⟩)
        · have := h4.low e1; omega
      · exact .inr ⟨e1, e2⟩
  · intro t ht z hp hq
    rcases List.mem_append.1 ht with ht | ht
    · exact h.sep t ht z hp (.inr hq)
    · obtain ⟨rfl, _⟩ := both_mem ht
      have := g4.low hq
      simp only; omega
structure NgInv (r : List Sp) (k : Nat) (f : Int) (o : List Sp) : Prop where
  same : ∀ z, InS o z ↔ (-1073741824 ≤ z ∧ z < f ∧ ¬ InS (r.take k) z)
  low : ∀ z, InS (r.take k) z → z < f
  rest : PlainF (f - 1) (r.drop k) ∨ (k = 0 ∧ f = -1073741824 ∧ Plain r)
  bound : -1073741824 ≤ f ∧ f ≤ 1073741825
  len : o.length = k
  word : ∀ p ∈ o, (-1073741826 ≤ p.1 ∧ p.1 ≤ 1073741825) ∧ (-1073741826 ≤ p.2 ∧ p.2 ≤ 1073741825)
theorem NgInv.start {r : List Sp} (h : Plain r) : NgInv r 0 (-1073741824) [] := by
  refine ⟨fun z => ?_, by simp [InS], .inr ⟨rfl, rfl, h⟩, by omega, rfl, by simp⟩
  simp only [InS, List.take_zero, not_false_eq_true, and_true, false_iff]; omega
theorem NgInv.head {r o : List Sp} {k : Nat} {f : Int} {x : Sp} (h : NgInv r k f o) (hx : r[k]? = some x) : f ≤ x.1 ∧ x.1 ≤ x.2 ∧ x.2 ≤ 1073741824 ∧ PlainF x.2 (r.drop (k + 1)) := by
  rcases h.rest with g | ⟨rfl, rfl, g⟩
  · rw [drop_cons? hx] at g
    obtain ⟨a1, a2, a3, a4⟩ := g
    exact ⟨by omega, a2, a3, a4⟩
  · have e := drop_cons? hx
    rw [List.drop_zero] at e
    rw [e] at g
    obtain ⟨a1, a2, a3, a4⟩ := g
    exact ⟨by omega, a2, a3, a4⟩
theorem NgInv.step {r o : List Sp} {k : Nat} {f : Int} {x : Sp} (h : NgInv r k f o) (hx : r[k]? = some x) : NgInv r (k + 1) (x.2 + 1) (o ++ [(f, x.1 - 1)]) := by
  obtain ⟨h1, h2, h3, h4⟩ := h.head hx
  have hb := h.bound
  refine ⟨fun z => ?_, fun z hz => ?_, .inl ?_, by omega, by simp [h.len], ?_⟩
  · rw [InS_append, h.same, take_snoc? hx, InS_append]
    simp only [InS, or_false]
    have hl := h.low z
    constructor
    · rintro (⟨e1, e2, e3⟩ | ⟨e1, e2⟩)
      · exact ⟨e1, by omega, by rintro (g | g); exact e3 g; omega⟩
      · exact ⟨by omega, by omega, by rintro (g | g); have := hl g; omega; omega⟩
    · rintro ⟨e1, e2, e3⟩
      by_cases g : z < f
      · exact .inl ⟨e1, g, fun g' => e3 (.inl g')⟩
      · exact .inr ⟨by omega, by
          have : ¬ (x.1 ≤ z ∧ z ≤ x.2) := fun g' => e3 (.inr g')
          omega⟩
  · rw [take_snoc? hx, InS_append] at hz
    simp only [InS, or_false] at hz
    rcases hz with g | g
    · have := h.low z g; omega
    · omega
  · rw [Int.add_sub_cancel]; exact h4
  · intro p hp
    rcases List.mem_append.1 hp with hp | hp
    · exact h.word p hp
    · simp at hp; subst hp; simp only; omega
theorem NgInv.done {r o : List Sp} {f : Int} {S : Int → Prop} (h : NgInv r r.length f o) (hr : Rep r S) : (∀ z, Mem (o ++ [(f, 1073741824)]) z ↔ (-1073741824 ≤ z ∧ z ≤ 1073741824 ∧ ¬ S z)) ∧ SpW (o ++ [(f, 1073741824)]) := by
  have hb := h.bound
  refine ⟨fun z => ?_, ?_⟩
  · unfold Mem
    have hs := h.same z
    have hl := h.low z
    rw [List.take_length] at hs hl
    rw [InS_append, hs, ← hr.2]
    simp only [InS, or_false]
    constructor
    · rintro ⟨e1, e2, (e3 | e3)⟩
      · exact ⟨e1, e2, e3.2.2⟩
      · exact ⟨e1, e2, fun g => by have := hl g; omega⟩
    · rintro ⟨e1, e2, e3⟩
      by_cases g : z < f
      · exact ⟨e1, e2, .inl ⟨e1, g, e3⟩⟩
      · exact ⟨e1, e2, .inr ⟨by omega, by omega⟩⟩
  · intro p hp
    rcases List.mem_append.1 hp with hp | hp
    · have := h.word p hp; omega
    · simp at hp; subst hp; simp only; omega
theorem cnt_nil : cnt [] = 0 := rfl
theorem cnt_cons (p : Sp) (l : List Sp) : cnt (p :: l) = p.2 - p.1 + 1 + cnt l := by simp [cnt]
theorem PlainF.cnt_le {a : Int} {l : List Sp} (h : PlainF a l) (ha : a ≤ 1073741824) : 0 ≤ cnt l ∧ cnt l ≤ 1073741824 - a := by
  induction l generalizing a with
  | nil => rw [cnt_nil]; omega
  | cons p l ih =>
    obtain ⟨h1, h2, h3, h4⟩ := h
    have := ih h4 h3
    rw [cnt_cons]; omega
theorem Plain.cnt_take {l : List Sp} (h : Plain l) (k : Nat) : 0 ≤ cnt (l.take k) ∧ cnt (l.take k) ≤ 2147483650 := by
  have h1 : PlainF (-1073741826) (l.take k) := by
    have : PlainF (-1073741826) (l.take k ++ l.drop k) := by rw [List.take_append_drop]; exact h
    exact PlainF.init this
  have := PlainF.cnt_le h1 (by omega)
  omega
end Go.Proofs.Ytlmkokeapbleoaa
end
