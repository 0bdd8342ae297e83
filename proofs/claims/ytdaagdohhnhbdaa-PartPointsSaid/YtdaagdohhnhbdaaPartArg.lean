/- An argument that is a part: its four numbers are ints. Condition: none. -/
import Derived.Test.YtdaagdohhnhbdaaSpanArg
import Derived.Lib.SmallJoins
namespace Go.Proofs.Ytdaagdohhnhbdaa
open Go.RowKit Go.ChangeShapes Go.WideShapes Go.Deep Go.Joins
set_option linter.unusedVariables false

set_option maxRecDepth 100000 in
theorem open_part {H : Type} {enc : TypeId × Value → H} {W : World} {base b0 : Nat} {r : Reach} {spare : Nat → Bool} {held : Bool} {v : Value} {dd : DataW H} {p : List MemPlace}
    (hv : Value.okWide Try.prog W r b0 23 v) (h : DataW.Trod enc Try.prog W base spare held 23 v dd p) :
    ∃ a d t u : Int, v = .agg #[.int .i64 a, .int .i64 d, .int .i64 t, .int .i64 u] ∧ ((Lit.int .i64 a).wf = true ∧ (Lit.int .i64 d).wf = true ∧ (Lit.int .i64 t).wf = true ∧ (Lit.int .i64 u).wf = true) := by
  obtain ⟨v0, v1, v2, v3, y0, y1, y2, y3, n, rfl, _, _, h0, h1, h2, h3⟩ := open_agg4 Try.underlying23 (by kernel_rfl) (by kernel_rfl) hv h
  obtain ⟨z0, e0, _, w0⟩ := DataW.trod_int Try.underlying3 h0
  obtain ⟨z1, e1, _, w1⟩ := DataW.trod_int Try.underlying3 h1
  obtain ⟨z2, e2, _, w2⟩ := DataW.trod_int Try.underlying3 h2
  obtain ⟨z3, e3, _, w3⟩ := DataW.trod_int Try.underlying3 h3
  simp at e0 e1 e2 e3
  exact ⟨z0, z1, z2, z3, by rw [e0, e1, e2, e3], w0, w1, w2, w3⟩
end Go.Proofs.Ytdaagdohhnhbdaa
