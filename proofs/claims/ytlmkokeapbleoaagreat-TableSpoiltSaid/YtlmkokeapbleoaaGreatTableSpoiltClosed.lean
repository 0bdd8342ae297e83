/- umlautlaw17.TableSpoilt: the row's closed facts (a text of their own: they hang on the rows alone). -/
import Derived.Test.YtlmkokeapbleoaaGreatRows
import Derived.WalkKit
import Derived.ProofKit
import Derived.OpenShut
import Derived.JoinedOf
namespace Go.Proofs.YtlmkokeapbleoaaGreat.tableSpoilt
open Go.ChangeShapes Go.WideShapes Go.ChangeAt Go.RowKit
set_option linter.unusedVariables false
set_option maxHeartbeats 16000000 in
theorem closed : joinedFacts Tryz.pinned.checked.prog 7 Tryz.f7 Rows.tableSpoiltSpec Rows.tableSpoiltRow = true := by
  unfold joinedFacts
  repeat' with_reducible refine Bool.and_eq_true_iff.2 ⟨?_, ?_⟩
  all_goals as_aux_lemma => kernel_rfl
theorem inst : Func.isInstance Tryz.pinned.checked.prog Tryz.f7 Rows.tableSpoiltRow.origin Rows.tableSpoiltRow.targs := of_decide_eq_true (by kernel_rfl)
theorem wrap : Func.isWrapper Tryz.pinned.checked.prog Tryz.f7 Rows.tableSpoiltRow.wrapper Rows.tableSpoiltRow.mainSum := by unfold Func.isWrapper; first | (rw [if_pos (by decide +kernel)]; kernel_rfl) | (rw [if_neg (by decide +kernel)]; exact ⟨rfl, rfl⟩)
end Go.Proofs.YtlmkokeapbleoaaGreat.tableSpoilt
