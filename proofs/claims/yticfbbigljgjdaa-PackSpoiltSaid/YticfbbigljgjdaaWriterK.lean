/- Contracts of (*pack.writer).num on lists made for the call, and of (*pack.writer).terms. Condition: as of num; the terms lie below the writer. -/
import Derived.Test.YticfbbigljgjdaaWriter
import Derived.Test.YticfbbigljgjdaaPackSum
namespace Go.Proofs.Yticfbbigljgjdaa
open Go.RowKit
set_option linter.unusedVariables false
set_option linter.unusedSimpArgs false

/-- a writer on its way: what it has written; what else has changed since w0; nothing below wB's end -/
structure WK (wB : World) (pb : Nat) (w0 : World) (r0 : Option Nat) (W : World) (A : Option Addr) (c : Nat) (bs : List Int) (lg : Bool) : Prop where
  wr : WrS W wB.heap.size pb A c bs lg
  on : Only pb r0 w0 W
  nw : Newer r0 (ownA A) w0.heap.size
  bl : Below wB.heap.size wB W
def RetK (wB : World) (pb : Nat) (w0 : World) (r0 r : Option Nat) (w : World) (bs : List Int) (lg : Bool) (e : Ending) (w' : World) : Prop :=
  e = .returned (.tuple #[]) ∧ ∃ A' c', Hid (WK wB pb w0 r0 w' A' c' bs lg) ∧ Hid (Only pb r w w') ∧ Hid (Newer r (ownA A') w.heap.size)
section
variable {wB w0 W W' : World} {pb : Nat} {r0 : Option Nat} {A : Option Addr} {c : Nat} {bs : List Int} {lg : Bool}
theorem WK.alloc (h : WK wB pb w0 r0 W A c bs lg) (o : Obj) : WK wB pb w0 r0 (W.alloc o) A c bs lg := ⟨h.wr.alloc o, h.on.alloc o, h.nw, h.bl.alloc h.bl.size o⟩
theorem WK.drewN (h : WK wB pb w0 r0 W A c bs lg) (n : Nat) : WK wB pb w0 r0 (W.drewN n) A c bs lg := ⟨h.wr.drewN n, h.on.drewN n, h.nw, below_drewN h.bl n⟩
theorem WK.rlt (h : WK wB pb w0 r0 W A c bs lg) : ∀ g, ownA A = some g → wB.heap.size ≤ g ∧ g < W.heap.size := fun g hg => h.wr.row.lt g (by rw [own_ownA]; exact hg)
theorem WK.fresh (h : WK wB pb w0 r0 W A c bs lg) (n : Nat) : Apart (some ⟨W.heap.size, 0, none⟩) n pb (ownA A) :=
  .inr ⟨_, _, rfl, fun e => by have := h.wr.lt; omega, fun e => by have := (h.rlt _ e.symm).2; omega⟩
/-- a block of the call's own, apart from the writer, is as it was -/
theorem Only.box {r : Option Nat} {w w' : World} (h : Only pb r w w') {b : Nat} (hb : b < w.heap.size) (h1 : b ≠ pb) (h2 : some b ≠ r) (i : Nat) : w'.cell? ⟨b, i, none⟩ = w.cell? ⟨b, i, none⟩ := World.cell?_of_block (h.block b hb h1 h2)
theorem below_wk (h : Hid (WK wB pb w0 r0 W A c bs lg)) (h3 : Hid (Only pb (ownA A) W W')) : Below wB.heap.size wB W' :=
  h.out.bl.trans (h3.out.below h.out.wr.bp (fun g hg => (h.out.rlt g hg).1) h.out.bl.size)
theorem num_wk (h : Hid (WK wB pb w0 r0 W A c bs lg)) (B : Option Addr) (l : List Int) (d : Nat) (hl : Hid (IntsAt B l W)) (hB : Hid (Apart B l.length pb (ownA A))) (hlen : bs.length + 4 * l.length ≤ 1073741824) :
    Calls Try.prog 20 #[.pointer (some ⟨pb, 0, none⟩), .slice B l.length d] W (RetK wB pb w0 r0 (ownA A) W (bs ++ l.flatMap numB) (lg || bigs l)) :=
  (num_any wB.heap.size pb A c bs lg B l d W (Lib.hid h.out.wr) hl hB hlen h.out.bl.size).mono fun e w' ⟨h1, A', c', h2, h3, h4⟩ =>
    ⟨h1, A', c', Lib.hid ⟨h2.out, h.out.on.trans h3.out h.out.nw, h.out.nw.trans h4.out h.out.on.size, below_wk h h3⟩, h3, h4⟩
/-- two steps: first to the call's world by new blocks alone -/
theorem Only.via {r : Option Nat} {a b c : World} (h : Below a.heap.size a b) (k : Only pb r b c) : Only pb r a c := (Only.of_below h).trans k (Newer.refl _ _)
theorem Newer.mono {r r' : Option Nat} {n m : Nat} (h : Newer r r' m) (hm : n ≤ m) : Newer r r' n := h.imp id fun ⟨g, h1, h2⟩ => ⟨g, h1, Nat.le_trans hm h2⟩
theorem intsAt_lit (w : World) (l : List Int) (t : TypeId) (h : ∀ x ∈ l, I64 x) (hl : l.length ≤ 1000) : IntsAt (some ⟨w.heap.size, 0, none⟩) l (w.alloc (.cells (l.map (Value.int .i64)).toArray t)) := by
  have e : l.flatMap (fun x => [Value.int .i64 x]) = l.map (Value.int .i64) := by
    clear h hl
    induction l with
    | nil => rfl
    | cons x l ih => rw [List.flatMap_cons, ih]; rfl
  refine ⟨⟨by rw [e]; simp, fun _ => ⟨_, _, rfl, fun j u hu => ?_⟩⟩, h, by omega⟩
  rw [e] at hu
  rw [Nat.zero_add, World.cell?_alloc_new]
  simpa using hu
theorem num_lit1 (h : Hid (WK wB pb w0 r0 W A c bs lg)) (x0 : Int) (hx : Hid (I64 x0)) (hlen : bs.length + 4 ≤ 1073741824) :
    Calls Try.prog 20 #[.pointer (some ⟨pb, 0, none⟩), .slice (some ⟨W.heap.size, 0, none⟩) 1 1] (W.alloc (.cells #[.int .i64 x0] 3)) (RetK wB pb w0 r0 (ownA A) (W.alloc (.cells #[.int .i64 x0] 3)) (bs ++ [x0].flatMap numB) (lg || bigs [x0])) :=
  num_wk (Lib.hid (h.out.alloc (.cells #[.int .i64 x0] 3))) (some ⟨W.heap.size, 0, none⟩) [x0] 1 (Lib.hid (intsAt_lit W [x0] 3 (by intro y hy; simp at hy; subst hy; exact hx.out) (by simp))) (Lib.hid (h.out.fresh _)) (by simpa using hlen)
theorem num_lit2 (h : Hid (WK wB pb w0 r0 W A c bs lg)) (x0 x1 : Int) (hx : Hid (I64 x0 ∧ I64 x1)) (hlen : bs.length + 8 ≤ 1073741824) :
    Calls Try.prog 20 #[.pointer (some ⟨pb, 0, none⟩), .slice (some ⟨W.heap.size, 0, none⟩) 2 2] (W.alloc (.cells #[.int .i64 x0, .int .i64 x1] 3)) (RetK wB pb w0 r0 (ownA A) (W.alloc (.cells #[.int .i64 x0, .int .i64 x1] 3)) (bs ++ [x0, x1].flatMap numB) (lg || bigs [x0, x1])) :=
  num_wk (Lib.hid (h.out.alloc (.cells #[.int .i64 x0, .int .i64 x1] 3))) (some ⟨W.heap.size, 0, none⟩) [x0, x1] 2 (Lib.hid (intsAt_lit W [x0, x1] 3 (by intro y hy; simp at hy; obtain ⟨k0, k1⟩ := hx.out; rcases hy with rfl | rfl <;> assumption) (by simp))) (Lib.hid (h.out.fresh _)) (by simpa using hlen)
theorem num_lit4 (h : Hid (WK wB pb w0 r0 W A c bs lg)) (x0 x1 x2 x3 : Int) (hx : Hid (I64 x0 ∧ I64 x1 ∧ I64 x2 ∧ I64 x3)) (hlen : bs.length + 16 ≤ 1073741824) :
    Calls Try.prog 20 #[.pointer (some ⟨pb, 0, none⟩), .slice (some ⟨W.heap.size, 0, none⟩) 4 4] (W.alloc (.cells #[.int .i64 x0, .int .i64 x1, .int .i64 x2, .int .i64 x3] 3)) (RetK wB pb w0 r0 (ownA A) (W.alloc (.cells #[.int .i64 x0, .int .i64 x1, .int .i64 x2, .int .i64 x3] 3)) (bs ++ [x0, x1, x2, x3].flatMap numB) (lg || bigs [x0, x1, x2, x3])) :=
  num_wk (Lib.hid (h.out.alloc (.cells #[.int .i64 x0, .int .i64 x1, .int .i64 x2, .int .i64 x3] 3))) (some ⟨W.heap.size, 0, none⟩) [x0, x1, x2, x3] 4 (Lib.hid (intsAt_lit W [x0, x1, x2, x3] 3 (by intro y hy; simp at hy; obtain ⟨k0, k1, k2, k3⟩ := hx.out; rcases hy with rfl | rfl | rfl | rfl <;> assumption) (by simp))) (Lib.hid (h.out.fresh _)) (by simpa using hlen)
theorem num_lit6 (h : Hid (WK wB pb w0 r0 W A c bs lg)) (x0 x1 x2 x3 x4 x5 : Int) (hx : Hid (I64 x0 ∧ I64 x1 ∧ I64 x2 ∧ I64 x3 ∧ I64 x4 ∧ I64 x5)) (hlen : bs.length + 24 ≤ 1073741824) :
    Calls Try.prog 20 #[.pointer (some ⟨pb, 0, none⟩), .slice (some ⟨W.heap.size, 0, none⟩) 6 6] (W.alloc (.cells #[.int .i64 x0, .int .i64 x1, .int .i64 x2, .int .i64 x3, .int .i64 x4, .int .i64 x5] 3)) (RetK wB pb w0 r0 (ownA A) (W.alloc (.cells #[.int .i64 x0, .int .i64 x1, .int .i64 x2, .int .i64 x3, .int .i64 x4, .int .i64 x5] 3)) (bs ++ [x0, x1, x2, x3, x4, x5].flatMap numB) (lg || bigs [x0, x1, x2, x3, x4, x5])) :=
  num_wk (Lib.hid (h.out.alloc (.cells #[.int .i64 x0, .int .i64 x1, .int .i64 x2, .int .i64 x3, .int .i64 x4, .int .i64 x5] 3))) (some ⟨W.heap.size, 0, none⟩) [x0, x1, x2, x3, x4, x5] 6 (Lib.hid (intsAt_lit W [x0, x1, x2, x3, x4, x5] 3 (by intro y hy; simp at hy; obtain ⟨k0, k1, k2, k3, k4, k5⟩ := hx.out; rcases hy with rfl | rfl | rfl | rfl | rfl | rfl <;> assumption) (by simp))) (Lib.hid (h.out.fresh _)) (by simpa using hlen)
end
def bigP (p : PartL) : Bool := bigs [p.1, p.2.1, p.2.2.1, p.2.2.2]
def bigM (t : TermL) : Bool := bigs [t.base, t.drop, t.take, t.up, t.sum, (t.parts.length : Int)] || t.parts.any bigP
def bigT (l : List TermL) : Bool := bigs [(l.length : Int)] || l.any bigM
theorem partB_eq (p : PartL) : [p.1, p.2.1, p.2.2.1, p.2.2.2].flatMap numB = partB p := by simp [partB]
theorem partsB_len (l : List PartL) : (l.flatMap partB).length = 16 * l.length := by
  induction l with
  | nil => rfl
  | cons p l ih => rw [List.flatMap_cons, List.length_append, ih, partB_len, List.length_cons]; omega
theorem termB_len2 (t : TermL) : (termB t).length = 24 + 16 * t.parts.length := by unfold termB; simp only [List.length_append, numB_len, partsB_len]; omega
theorem flatMap_take_le {α : Type} (f : α → List Int) (l : List α) (k : Nat) : ((l.take k).flatMap f).length ≤ (l.flatMap f).length := by
  conv => rhs; rw [← List.take_append_drop k l, List.flatMap_append, List.length_append]
  omega
theorem flatMap_take_succ {α : Type} (f : α → List Int) {l : List α} {k : Nat} {x : α} (h : l[k]? = some x) : (l.take (k + 1)).flatMap f = (l.take k).flatMap f ++ f x := by
  rw [take_snoc? h, List.flatMap_append]; simp
theorem any_take_succ {α : Type} (f : α → Bool) {l : List α} {k : Nat} {x : α} (h : l[k]? = some x) : (l.take (k + 1)).any f = ((l.take k).any f || f x) := by
  rw [take_snoc? h, List.any_append]; simp
end Go.Proofs.Yticfbbigljgjdaa
