/- Small facts on drivers' states: they stay right; what is written are bytes. Condition: the table is right. -/
import Derived.Test.YtlmkokeapbleoaaGreatP22
import Derived.Test.YtlmkokeapbleoaaGreatP14
import Derived.Test.YtlmkokeapbleoaaGreatP21
namespace Go.Proofs.YtlmkokeapbleoaaGreat
open Go.RowKit Go.Shelf
theorem rdV_size {cs : Array Value} {s : DrvS} {ha : Option Addr} {hc : Nat} (hs : cs.size = 259) : (rdV cs s ha hc).size = 263 := rdC_size hs
theorem rdV_one {cs : Array Value} {T : TabI} {s : DrvS} {ha : Option Addr} {hc : Nat} (hC : TabC cs T) : (rdV cs s ha hc).all (·.oneCell') = true := rdC_one hC
theorem clS_ok {T : TabL} (h : TabOk T) {s : DrvS} (hs : Drv.Ok (heldL T) T.nodes.length s.1) : Drv.Ok (heldL T) T.nodes.length (clS T s).1.1 := by
 unfold clS
 split
 ·exact hs
 ·split
  ·exact ⟨(drv_right h).pos, by simp [Drv.rejd, (drv_right h).zero], fun _ => rfl⟩
  ·exact hs
end Go.Proofs.YtlmkokeapbleoaaGreat
