/- Bytes as a string; a table in a box of its own. Condition: the bytes are known. -/
import Derived.Test.YticfbbigljgjdaaAwake18
namespace Go.Proofs.Yticfbbigljgjdaa
open Go.RowKit
set_option linter.unusedVariables false
set_option linter.unusedSimpArgs false
theorem bytes_str {W : World} {A : Option Addr} {l : List Int} (c : Nat) (h : BytesAt A l W) :
    (convert 30 9 (.slice A l.length c)).run Try.prog W = .ok (.string (strOfNums l)) W :=
  run_conv_str (P := Try.prog) W 30 5 Try.underlying30 Try.underlying5 A l.length c l (by have h := h.sl; rw [bytes_cells] at h; exact h) 9 Try.underlying9
theorem tab_start {w : World} {cs : Array Value} {T : TabI} (hT : TabW T w) : Hid (St w (w.alloc (.cells cs 27)) (fun W => TabBox w.heap.size cs W ∧ TabW T W)) :=
  St.tbox (Lib.hid (St.start fun W hW => hT.below hW)) cs
end Go.Proofs.Yticfbbigljgjdaa
