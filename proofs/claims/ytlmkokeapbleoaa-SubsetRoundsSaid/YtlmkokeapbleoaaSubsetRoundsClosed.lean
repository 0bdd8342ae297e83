/- umlautlaw20.SubsetRounds: the row's closed facts (a text of their own: they hang on the rows alone). -/
import Derived.Test.YtlmkokeapbleoaaRows
import Derived.WalkKit
import Derived.ProofKit
import Derived.OpenShut
import Derived.JoinedOf
namespace Go.Proofs.Ytlmkokeapbleoaa.subsetRounds
open Go.ChangeShapes Go.WideShapes Go.ChangeAt Go.RowKit
set_option linter.unusedVariables false
set_option maxHeartbeats 16000000 in
theorem closed : joinedFacts Try.pinned.checked.prog 3 Try.f3 Rows.subsetRoundsSpec Rows.subsetRoundsRow = true := by
  unfold joinedFacts
  repeat' with_reducible refine Bool.and_eq_true_iff.2 ⟨?_, ?_⟩
  all_goals as_aux_lemma => kernel_rfl
theorem inst : Func.isInstance Try.pinned.checked.prog Try.f3 Rows.subsetRoundsRow.origin Rows.subsetRoundsRow.targs := of_decide_eq_true (by kernel_rfl)
theorem wrap : Func.isWrapper Try.pinned.checked.prog Try.f3 Rows.subsetRoundsRow.wrapper Rows.subsetRoundsRow.mainSum := by unfold Func.isWrapper; first | (rw [if_pos (by decide +kernel)]; kernel_rfl) | (rw [if_neg (by decide +kernel)]; exact ⟨rfl, rfl⟩)
end Go.Proofs.Ytlmkokeapbleoaa.subsetRounds
