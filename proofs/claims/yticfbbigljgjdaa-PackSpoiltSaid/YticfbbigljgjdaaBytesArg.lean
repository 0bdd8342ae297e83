/- Opener for arguments that are slices of bytes. Condition: none. -/
import Derived.Test.YticfbbigljgjdaaRowArg
import Derived.Test.YticfbbigljgjdaaPackSum
namespace Go.Proofs.Yticfbbigljgjdaa
open Go.RowKit Go.ChangeShapes Go.WideShapes Go.Deep
set_option linter.unusedVariables false
section
variable {H : Type} {enc : TypeId × Value → H} {W : World} {base : Nat} {spare : Nat → Bool} {held : Bool}
theorem opens_u8 : OpensAs enc W base spare held 5 (fun z => [Value.int .u8 z]) (fun z _ => 0 ≤ z ∧ z < 256) := fun fuel cs x h => by
  obtain ⟨z, e, _, w⟩ := DataW.trod_int Try.underlying5 h
  refine ⟨z, e, ?_⟩
  simp [Lit.wf, IntKind.min, IntKind.max, IntKind.signed, IntKind.bits] at w
  omega
theorem open_bytes {fuel : Nat} {cs : List Value} {x : DataW H × List MemPlace} (h : DataW.trod enc Try.prog W base spare held fuel 30 cs = some x) :
    ∃ A L c, cs = [Value.slice A L.length c] ∧ BytesAt A L W ∧ L.length ≤ c ∧ c ≤ 9223372036854775807 := opens_slice (size := 1) Try.underlying30 (by kernel_rfl) (by decide) (fun _ => rfl) opens_u8 h
end
end Go.Proofs.Yticfbbigljgjdaa
