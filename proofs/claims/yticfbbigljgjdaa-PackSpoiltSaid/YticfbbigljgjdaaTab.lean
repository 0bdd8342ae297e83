/- Words for slices of records and for tables in memory; what is right of a table, in plain words. No function of the program in sight. Condition: none. -/
import Derived.Test.YticfbbigljgjdaaSt
import Derived.Test.YticfbbigljgjdaaPackLaw
namespace Go.Proofs.Yticfbbigljgjdaa
open Go.RowKit
set_option linter.unusedVariables false
set_option linter.unusedSimpArgs false

noncomputable def pB (p : Prop) : Bool := @decide p (Classical.propDecidable p)
theorem pB_true {p : Prop} (h : p) : pB p = true := @decide_eq_true p (Classical.propDecidable p) h
theorem pB_false {p : Prop} (h : ¬ p) : pB p = false := @decide_eq_false p (Classical.propDecidable p) h
theorem pB_iff {p : Prop} : pB p = true ↔ p := ⟨fun h => Classical.byContradiction fun h2 => (by rw [pB_false h2] at h; cases h), pB_true⟩
theorem pB_congr {p q : Prop} (h : p ↔ q) : pB p = pB q := by rw [propext h]
theorem pB_t {p : Prop} {v : Bool} (hv : Hid (pB p = v)) (h : p) : v = true := hv.out.symm.trans (pB_true h)
theorem pB_f {p : Prop} {v : Bool} (hv : Hid (pB p = v)) (h : ¬ p) : v = false := hv.out.symm.trans (pB_false h)
theorem ret_pB {p : Prop} (h : p) : Ending.returned (.bool true) = .returned (.bool (pB p)) := by rw [pB_true h]
theorem ret_pBf {p : Prop} (h : ¬ p) : Ending.returned (.bool false) = .returned (.bool (pB p)) := by rw [pB_false h]

/-- a slice of records: 'size' cells each, and what holds of each -/
structure RowsAt {α : Type} (size : Nat) (f : α → List Value) (R : α → World → Prop) (A : Option Addr) (L : List α) (W : World) : Prop where
  sl : Sl W size A L.length (L.flatMap f)
  it : ∀ x ∈ L, R x W
  ln : L.length ≤ 9223372036854775807
def Stays {α : Type} (R : α → World → Prop) : Prop := ∀ x w w', R x w → Below w.heap.size w w' → R x w'
theorem flatMap_at {α : Type} {f : α → List Value} {size : Nat} (hf : ∀ x, (f x).length = size) {L : List α} {j : Nat} {x : α} (hx : L[j]? = some x) {i : Nat} {u : Value} (hu : (f x)[i]? = some u) : (L.flatMap f)[j * size + i]? = some u := by
  induction L generalizing j with
  | nil => simp at hx
  | cons y L ih =>
    have hi : i < size := by have := (List.getElem?_eq_some_iff.1 hu).1; rw [hf] at this; exact this
    cases j with
    | zero =>
      simp at hx; subst hx
      rw [List.flatMap_cons, Nat.zero_mul, Nat.zero_add, List.getElem?_append_left (by rw [hf]; exact hi)]; exact hu
    | succ j =>
      rw [List.flatMap_cons, List.getElem?_append_right (by rw [hf, Nat.add_mul]; omega), hf, show (j + 1) * size + i - size = j * size + i by rw [Nat.add_mul]; omega]
      exact ih (by simpa using hx)
section
variable {α : Type} {size : Nat} {f : α → List Value} {R : α → World → Prop} {A : Option Addr} {L : List α} {W W' : World}
theorem RowsAt.at_ (h : RowsAt size f R A L W) (hf : ∀ x, (f x).length = size) {j : Nat} (hj : j < L.length) :
    ∃ b off x, A = some ⟨b, off, none⟩ ∧ L[j]? = some x ∧ (∀ i u, (f x)[i]? = some u → W.cell? ⟨b, off + j * size + i, none⟩ = some u) ∧ R x W := by
  obtain ⟨b, off, hA, hc⟩ := h.sl.2 (by omega)
  have hx : L[j]? = some L[j] := List.getElem?_eq_getElem hj
  exact ⟨b, off, _, hA, hx, fun i u hu => by rw [Nat.add_assoc]; exact hc _ u (flatMap_at hf hx hu), h.it _ (List.mem_of_getElem? hx)⟩
theorem RowsAt.below (h : RowsAt size f R A L W) (hR : Stays R) (hb : Below W.heap.size W W') : RowsAt size f R A L W' :=
  ⟨Sl.below (B := 0) h.sl hb, fun x hx => hR x _ _ (h.it x hx) hb, h.ln⟩
theorem RowsAt.nil_ (size : Nat) (f : α → List Value) (R : α → World → Prop) (A : Option Addr) (W : World) : RowsAt size f R A [] W := ⟨Sl.nil_ _ _ _, fun x hx => (by cases hx), by simp⟩
end

def I64 (x : Int) : Prop := -9223372036854775808 ≤ x ∧ x ≤ 9223372036854775807
theorem I64.of_wf {x : Int} (h : (Lit.int .i64 x).wf = true) : I64 x := by
  unfold I64
  simpa [Lit.wf, IntKind.min, IntKind.signed, IntKind.bits] using h

def partC (p : PartL) : List Value := [.int .i64 p.1, .int .i64 p.2.1, .int .i64 p.2.2.1, .int .i64 p.2.2.2]
def PartW (p : PartL) : Prop := I64 p.1 ∧ I64 p.2.1 ∧ I64 p.2.2.1 ∧ I64 p.2.2.2
def PartsAt (A : Option Addr) (l : List PartL) (W : World) : Prop := RowsAt 4 partC (fun p _ => PartW p) A l W
/-- a term in memory: its numbers; where its parts lie -/
structure TermI where
  b : Int
  d : Int
  t : Int
  u : Int
  s : Int
  pa : Option Addr
  pc : Nat
  ps : List PartL
def TermI.L (i : TermI) : TermL := ⟨i.b, i.d, i.t, i.u, i.s, i.ps⟩
def termC (i : TermI) : List Value := [.int .i64 i.b, .int .i64 i.d, .int .i64 i.t, .int .i64 i.u, .int .i64 i.s, .slice i.pa i.ps.length i.pc]
def TermW (i : TermI) (W : World) : Prop := (I64 i.b ∧ I64 i.d ∧ I64 i.t ∧ I64 i.u ∧ I64 i.s) ∧ PartsAt i.pa i.ps W
def TermsAt (A : Option Addr) (l : List TermI) (W : World) : Prop := RowsAt 6 termC TermW A l W
/-- a list of terms in memory -/
structure OutI where
  a : Option Addr
  c : Nat
  l : List TermI
def OutI.L (o : OutI) : List TermL := o.l.map TermI.L
def OutI.v (o : OutI) : Value := .slice o.a o.l.length o.c
def OutW (o : OutI) (W : World) : Prop := TermsAt o.a o.l W
structure NodeI where
  h : Int
  na : Option Addr
  nc : Nat
  nx : List Int
  e : Int
def NodeI.L (n : NodeI) : NodeL := ⟨n.h, n.nx, n.e⟩
def nodeC (n : NodeI) : List Value := [.int .i64 n.h, .slice n.na n.nx.length n.nc, .int .i64 n.e]
def IntsAt (A : Option Addr) (l : List Int) (W : World) : Prop := RowsAt 1 (fun x => [Value.int .i64 x]) (fun x _ => I64 x) A l W
def NodeW (n : NodeI) (W : World) : Prop := (I64 n.h ∧ I64 n.e) ∧ IntsAt n.na n.nx W
def NodesAt (A : Option Addr) (l : List NodeI) (W : World) : Prop := RowsAt 3 nodeC NodeW A l W
structure ActI where
  e : Int
  d : Int
  o : OutI
def ActI.L (a : ActI) : ActL := ⟨a.e, a.d, a.o.L⟩
def actC (a : ActI) : List Value := [.int .i64 a.e, .int .i64 a.d, a.o.v]
def ActW (a : ActI) (W : World) : Prop := (I64 a.e ∧ I64 a.d) ∧ OutW a.o W
def ActsAt (A : Option Addr) (l : List ActI) (W : World) : Prop := RowsAt 3 actC ActW A l W
def EndsAt (A : Option Addr) (l : List OutI) (W : World) : Prop := RowsAt 1 (fun o => [OutI.v o]) OutW A l W
/-- a table's value: 256 classes, and where the three lists lie -/
structure TabI where
  cls : List Int
  na : Option Addr
  nc : Nat
  ns : List NodeI
  aa : Option Addr
  ac : Nat
  acts : List ActI
  ea : Option Addr
  ec : Nat
  es : List OutI
def TabI.L (t : TabI) : TabL := ⟨t.cls, t.ns.map NodeI.L, t.acts.map ActI.L, t.es.map OutI.L⟩
/-- these are a table's cells -/
structure TabC (cs : Array Value) (t : TabI) : Prop where
  size : cs.size = 259
  ln : t.cls.length = 256
  u8 : U8s t.cls
  cl : ∀ (i : Nat) (x : Int), t.cls[i]? = some x → cs[i]? = some (Value.int .u8 x)
  c1 : cs[256]? = some (Value.slice t.na t.ns.length t.nc)
  c2 : cs[257]? = some (Value.slice t.aa t.acts.length t.ac)
  c3 : cs[258]? = some (Value.slice t.ea t.es.length t.ec)
structure TabW (t : TabI) (W : World) : Prop where
  nodes : NodesAt t.na t.ns W
  acts : ActsAt t.aa t.acts W
  ends : EndsAt t.ea t.es W

theorem PartsAt.below {A : Option Addr} {l : List PartL} {w w' : World} (h : PartsAt A l w) (hb : Below w.heap.size w w') : PartsAt A l w' := RowsAt.below h (fun _ _ _ h _ => h) hb
theorem IntsAt.below {A : Option Addr} {l : List Int} {w w' : World} (h : IntsAt A l w) (hb : Below w.heap.size w w') : IntsAt A l w' := RowsAt.below h (fun _ _ _ h _ => h) hb
theorem TermW.stays : Stays TermW := fun i w w' h hb => ⟨h.1, h.2.below hb⟩
theorem TermsAt.below {A : Option Addr} {l : List TermI} {w w' : World} (h : TermsAt A l w) (hb : Below w.heap.size w w') : TermsAt A l w' := RowsAt.below h TermW.stays hb
theorem OutW.stays : Stays OutW := fun i w w' h hb => TermsAt.below h hb
theorem NodeW.stays : Stays NodeW := fun i w w' h hb => ⟨h.1, h.2.below hb⟩
theorem NodesAt.below {A : Option Addr} {l : List NodeI} {w w' : World} (h : NodesAt A l w) (hb : Below w.heap.size w w') : NodesAt A l w' := RowsAt.below h NodeW.stays hb
theorem ActW.stays : Stays ActW := fun i w w' h hb => ⟨h.1, TermsAt.below h.2 hb⟩
theorem ActsAt.below {A : Option Addr} {l : List ActI} {w w' : World} (h : ActsAt A l w) (hb : Below w.heap.size w w') : ActsAt A l w' := RowsAt.below h ActW.stays hb
theorem EndsAt.below {A : Option Addr} {l : List OutI} {w w' : World} (h : EndsAt A l w) (hb : Below w.heap.size w w') : EndsAt A l w' := RowsAt.below h OutW.stays hb
theorem TabW.below {t : TabI} {w w' : World} (h : TabW t w) (hb : Below w.heap.size w w') : TabW t w' := ⟨h.nodes.below hb, h.acts.below hb, h.ends.below hb⟩

theorem PartsAt.at_ {A : Option Addr} {l : List PartL} {W : World} (h : PartsAt A l W) {j : Nat} (hj : j < l.length) : ∃ b off p, A = some ⟨b, off, none⟩ ∧ l[j]? = some p ∧ PartW p ∧
    W.cell? ⟨b, off + j * 4, none⟩ = some (.int .i64 p.1) ∧ W.cell? ⟨b, off + j * 4 + 1, none⟩ = some (.int .i64 p.2.1) ∧ W.cell? ⟨b, off + j * 4 + 2, none⟩ = some (.int .i64 p.2.2.1) ∧ W.cell? ⟨b, off + j * 4 + 3, none⟩ = some (.int .i64 p.2.2.2) := by
  obtain ⟨b, off, p, hA, hp, hc, hw⟩ := RowsAt.at_ h (fun _ => rfl) hj
  exact ⟨b, off, p, hA, hp, hw, hc 0 _ rfl, hc 1 _ rfl, hc 2 _ rfl, hc 3 _ rfl⟩
theorem IntsAt.at_ {A : Option Addr} {l : List Int} {W : World} (h : IntsAt A l W) {j : Nat} (hj : j < l.length) : ∃ b off x, A = some ⟨b, off, none⟩ ∧ l[j]? = some x ∧ I64 x ∧ W.cell? ⟨b, off + j, none⟩ = some (.int .i64 x) := by
  obtain ⟨b, off, p, hA, hp, hc, hw⟩ := RowsAt.at_ h (fun _ => rfl) hj
  have := hc 0 _ rfl
  rw [Nat.mul_one, Nat.add_zero] at this
  exact ⟨b, off, p, hA, hp, hw, this⟩
theorem TermsAt.at_ {A : Option Addr} {l : List TermI} {W : World} (h : TermsAt A l W) {j : Nat} (hj : j < l.length) : ∃ b off i, A = some ⟨b, off, none⟩ ∧ l[j]? = some i ∧ TermW i W ∧
    W.cell? ⟨b, off + j * 6, none⟩ = some (.int .i64 i.b) ∧ W.cell? ⟨b, off + j * 6 + 1, none⟩ = some (.int .i64 i.d) ∧ W.cell? ⟨b, off + j * 6 + 2, none⟩ = some (.int .i64 i.t) ∧ W.cell? ⟨b, off + j * 6 + 3, none⟩ = some (.int .i64 i.u) ∧
    W.cell? ⟨b, off + j * 6 + 4, none⟩ = some (.int .i64 i.s) ∧ W.cell? ⟨b, off + j * 6 + 5, none⟩ = some (.slice i.pa i.ps.length i.pc) := by
  obtain ⟨b, off, p, hA, hp, hc, hw⟩ := RowsAt.at_ h (fun _ => rfl) hj
  exact ⟨b, off, p, hA, hp, hw, hc 0 _ rfl, hc 1 _ rfl, hc 2 _ rfl, hc 3 _ rfl, hc 4 _ rfl, hc 5 _ rfl⟩
theorem NodesAt.at_ {A : Option Addr} {l : List NodeI} {W : World} (h : NodesAt A l W) {j : Nat} (hj : j < l.length) : ∃ b off n, A = some ⟨b, off, none⟩ ∧ l[j]? = some n ∧ NodeW n W ∧
    W.cell? ⟨b, off + j * 3, none⟩ = some (.int .i64 n.h) ∧ W.cell? ⟨b, off + j * 3 + 1, none⟩ = some (.slice n.na n.nx.length n.nc) ∧ W.cell? ⟨b, off + j * 3 + 2, none⟩ = some (.int .i64 n.e) := by
  obtain ⟨b, off, p, hA, hp, hc, hw⟩ := RowsAt.at_ h (fun _ => rfl) hj
  exact ⟨b, off, p, hA, hp, hw, hc 0 _ rfl, hc 1 _ rfl, hc 2 _ rfl⟩
theorem ActsAt.at_ {A : Option Addr} {l : List ActI} {W : World} (h : ActsAt A l W) {j : Nat} (hj : j < l.length) : ∃ b off a, A = some ⟨b, off, none⟩ ∧ l[j]? = some a ∧ ActW a W ∧
    W.cell? ⟨b, off + j * 3, none⟩ = some (.int .i64 a.e) ∧ W.cell? ⟨b, off + j * 3 + 1, none⟩ = some (.int .i64 a.d) ∧ W.cell? ⟨b, off + j * 3 + 2, none⟩ = some (.slice a.o.a a.o.l.length a.o.c) := by
  obtain ⟨b, off, p, hA, hp, hc, hw⟩ := RowsAt.at_ h (fun _ => rfl) hj
  exact ⟨b, off, p, hA, hp, hw, hc 0 _ rfl, hc 1 _ rfl, hc 2 _ rfl⟩
theorem EndsAt.at_ {A : Option Addr} {l : List OutI} {W : World} (h : EndsAt A l W) {j : Nat} (hj : j < l.length) : ∃ b off o, A = some ⟨b, off, none⟩ ∧ l[j]? = some o ∧ OutW o W ∧ W.cell? ⟨b, off + j, none⟩ = some (.slice o.a o.l.length o.c) := by
  obtain ⟨b, off, p, hA, hp, hc, hw⟩ := RowsAt.at_ h (fun _ => rfl) hj
  have := hc 0 _ rfl
  rw [Nat.mul_one, Nat.add_zero] at this
  exact ⟨b, off, p, hA, hp, hw, this⟩

/-! ## what is right -/
def SmallN (x : Int) : Prop := -1114111 ≤ x ∧ x ≤ 1114111
def Rising (l : List PartL) : Prop := ∀ (i : Nat) p q, l[i]? = some p → l[i + 1]? = some q → p.2.2.2 < q.2.2.2
def BitsOk (d t u : Int) : Prop := 0 ≤ d ∧ d ≤ 20 ∧ 1 ≤ t ∧ t ≤ 21 ∧ 0 ≤ u ∧ u ≤ 20 ∧ (u = 0 ∨ t ≤ 6)
def PartOk (n : Int) (p : PartL) : Prop := 0 ≤ p.1 ∧ p.1 < n ∧ BitsOk p.2.1 p.2.2.1 p.2.2.2
def RiseOk (l : List PartL) : Prop := Rising l ∧ l.length ≤ 4
def NumsOk (t : TermL) : Prop := SmallN t.base ∧ SmallN t.sum ∧ BitsOk t.drop t.take t.up ∧ RiseOk t.parts
def TermOk (n : Int) (t : TermL) : Prop := NumsOk t ∧ ∀ p ∈ t.parts, PartOk n p
def TermsOk (n : Int) (l : List TermL) : Prop := ∀ t ∈ l, TermOk n t
def NextOk (T : TabL) (h x : Int) : Prop := x = -1 ∨ (h ≠ 4 ∧ ((0 ≤ x ∧ ∃ n, T.nodes[x.toNat]? = some n ∧ n.held = h + 1) ∨ (x ≤ -2 ∧ ∃ a, T.acts[(-2 - x).toNat]? = some a ∧ a.eat ≤ h + 1 ∧ TermsOk (h + 1) a.out)))
def NodeHead (T : TabL) (k : Nat) (n : NodeL) : Prop := 0 ≤ n.held ∧ n.held ≤ 4 ∧ n.next.length = k ∧ -1 ≤ n.fin ∧ n.fin < T.ends.length
def NodeOk (T : TabL) (k : Nat) (n : NodeL) : Prop := NodeHead T k n ∧ (0 ≤ n.fin → ∃ l, T.ends[n.fin.toNat]? = some l ∧ TermsOk n.held l) ∧ ∀ x ∈ n.next, NextOk T n.held x
def ActOk (T : TabL) (a : ActL) : Prop := 1 ≤ a.eat ∧ a.eat ≤ 4 ∧ 0 ≤ a.dest ∧ (∃ n, T.nodes[a.dest.toNat]? = some n ∧ n.held = 0) ∧ a.out.length ≤ 64
def TabHead (T : TabL) : Prop := T.nodes.length ≤ 4096 ∧ T.acts.length ≤ 4096 ∧ T.ends.length ≤ 4096 ∧ ∃ n, T.nodes[0]? = some n ∧ n.held = 0 ∧ 1 ≤ n.next.length ∧ n.next.length ≤ 256
structure TabOk (T : TabL) : Prop where
  head : TabHead T
  cls : ∀ c ∈ T.cls, c < widthL T
  acts : ∀ a ∈ T.acts, ActOk T a
  ends : ∀ l ∈ T.ends, l.length ≤ 64
  nodes : ∀ n ∈ T.nodes, NodeOk T (widthL T) n
theorem widthL_at {T : TabL} {n : NodeL} (h : T.nodes[0]? = some n) : widthL T = n.next.length := by
  unfold widthL
  split
  · rename_i e; rw [e] at h; simp at h
  · rename_i e; rw [e] at h; simp at h; rw [h]
end Go.Proofs.Yticfbbigljgjdaa
