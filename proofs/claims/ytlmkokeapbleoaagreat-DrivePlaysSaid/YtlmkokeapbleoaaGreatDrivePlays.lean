/- umlautlaw19.DrivePlays: every call returns true. Condition: none. -/
import Derived.Test.YtlmkokeapbleoaaGreatRows
import Derived.Test.YtlmkokeapbleoaaGreatDrivePlaysClosed
import Derived.Test.YtlmkokeapbleoaaGreatLawDrivePlays
import Derived.Test.YtlmkokeapbleoaaGreatP22
import Derived.Test.YtlmkokeapbleoaaGreatP07
import Derived.WalkKit
import Derived.ProofKit
import Derived.OpenShut
import Derived.ShutString
import Derived.ChangeOld
import Derived.Below
namespace Go.Proofs.YtlmkokeapbleoaaGreat.drivePlays
open Go.ChangeShapes Go.WideShapes Go.ChangeAt Go.RowKit
set_option linter.unusedVariables false

theorem own : ownKnob Tryz.prog.godebug = none := by kernel_rfl
theorem laidOut : laidOutB Tryz.prog = true := by kernel_rfl

set_option maxRecDepth 100000 in
theorem lifted (os : Os) (started : os.Started) (H : Type) (enc : TypeId × Value → H) :
    ReturnsInHanded {} Tryz.checked os 11 .any (Rows.drivePlaysSpec.pre6 enc Tryz.prog Tryz.f11 Rows.drivePlaysRow.domain false) (Rows.drivePlaysSpec.post enc Tryz.prog Tryz.f11 false true false false) := by
  refine returnsInHanded_of_change (C := Tryz.checked) own started (by kernel_rfl) Tryz.func11
    (ChangeSpec.witness6 (enc := enc) (C := Tryz.checked) false ⟨#[], #[.agg zeroT, .slice none 0 0], []⟩ 8 (by kernel_rfl) (by kernel_rfl) (by kernel_rfl) (by kernel_rfl)) ?_
  intro W base args ds gs before hval0 hW hcnd _
  have hval : ∀ (j : Nat) t v, Tryz.f11.params[j]? = some t → args[j]? = some v → Value.okWide Tryz.prog W .any base t v := hval0
  have hW' := hW
  obtain ⟨p, q, hA0, hV, rfl, hfz, hnd⟩ := hW
  have hA : DataW.TrodAll enc Tryz.prog W 0 (fun _ => true) true Tryz.f11.params.toList args.toList ds p := hA0
  rw [Tryz.params11] at hA hval
  obtain ⟨v0, vs0, d0, ds0, p0, q0, hargs, rfl, rfl, h0, r0⟩ := trodAll_cons hA
  obtain ⟨v1, vs1, d1, ds1, p1, q1, rfl, rfl, rfl, h1, r1⟩ := trodAll_cons r0
  obtain ⟨rfl, rfl, rfl⟩ := trodAll_nil r1
  obtain rfl : args = #[v0, v1] := by cases args; simp_all
  obtain ⟨rfl, rfl⟩ := trodVars_none hV
  obtain ⟨cs0, rfl, _⟩ := okWide_struct Tryz.underlying49 (hval 0 49 v0 rfl rfl)
  have k0 := h0
  have lt0 : ∀ x ∈ p0, x.block < W.heap.size := by obtain ⟨m, hm⟩ := k0; exact DataW.trod_lt m _ _ _ hm
  obtain ⟨T0, hC0, hT0⟩ : ∃ T : TabI, TabC cs0 T ∧ TabW T W := by
    obtain ⟨fuel, hf⟩ := h0
    exact open_table (by simpa [Value.cells] using hf)
  obtain ⟨a1, len1, cap1, rfl⟩ := okWide_slice Tryz.underlying74 (hval 1 74 v1 rfl rfl)
  have k1 := h1
  have lt1 : ∀ x ∈ p1, x.block < W.heap.size := by obtain ⟨m, hm⟩ := k1; exact DataW.trod_lt m _ _ _ hm
  obtain ⟨l1, rfl, hs1⟩ : ∃ l : List OpI, len1 = l.length ∧ OpsAt a1 l W := by
    obtain ⟨fuel, hf⟩ := h1
    obtain ⟨A, L, c, e, g1, g2, g3⟩ := open_ops hf
    have e : Value.slice a1 len1 cap1 = .slice A L.length c := by simpa [Value.cells] using e
    injection e with e1 e2 e3
    subst e1; subst e3
    exact ⟨L, e2, g1⟩
  clear hA0 hval0
  refine (DrivePlays_walk cs0 T0 a1 cap1 l1 W hC0 hT0 hs1).mono fun e W' ⟨he, bel⟩ => ?_
  subst he
  exact ⟨_, rfl, _, _, _, [], _, [], hW', trodAll_mk1 (shut_bool Tryz.underlying4 _), (trodAll_cons_mk (Below.trod laidOut (by kernel_rfl) (of_decide_eq_true (by kernel_rfl)) k0 bel lt0) (trodAll_cons_mk (Below.trod laidOut (by kernel_rfl) (of_decide_eq_true (by kernel_rfl)) k1 bel lt1) trodAll_mk0)), rfl, bel.frame _, fun h => by cases h⟩

theorem over : Rows.drivePlaysRow.holds Tryz.pinned (OpenSpec.ofChange Rows.drivePlaysSpec) :=
  OpenClaim.holds_of_wide 11 Tryz.f11 rfl rfl rfl rfl rfl rfl rfl ⟨rfl, rfl, rfl, rfl, rfl⟩ rfl rfl rfl rfl rfl (by kernel_rfl) Tryz.func11 closed
    inst wrap
    (fun os started H enc _ => lifted os started H enc)

theorem proved : Rows.DrivePlaysSaid := over
end Go.Proofs.YtlmkokeapbleoaaGreat.drivePlays
