/- Small facts on drivers' states: they stay right; what is written are bytes. Condition: the table is right. -/
import Derived.Test.YtlmkokeapbleoaaGreatM20
import Derived.Test.YtlmkokeapbleoaaGreatM13
import Derived.Test.YtlmkokeapbleoaaGreatM14
import Derived.Test.YtlmkokeapbleoaaGreatM19
namespace Go.Proofs.YtlmkokeapbleoaaGreat
open Go.RowKit Go.Shelf
set_option linter.unusedVariables false
set_option linter.unusedSimpArgs false
theorem rdV_size {cs : Array Value} {s : DrvS} {ha : Option Addr} {hc : Nat} (hs : cs.size = 259) : (rdV cs s ha hc).size = 263 := rdC_size hs
theorem rdV_one {cs : Array Value} {T : TabI} {s : DrvS} {ha : Option Addr} {hc : Nat} (hC : TabC cs T) : (rdV cs s ha hc).all (·.oneCell') = true := rdC_one hC
theorem wrS_ok {T : TabL} (h : TabOk T) {s : DrvS} (hs : Drv.Ok (heldL T) T.nodes.length s.1) (b : List Int) : Drv.Ok (heldL T) T.nodes.length (wrS T s b).1.1 := by
 unfold wrS
 split
 ·exact hs
 ·exact Drv.Ok.go (drv_right h) s.1 b hs
theorem clS_ok {T : TabL} (h : TabOk T) {s : DrvS} (hs : Drv.Ok (heldL T) T.nodes.length s.1) : Drv.Ok (heldL T) T.nodes.length (clS T s).1.1 := by
 unfold clS
 split
 ·exact hs
 ·split
  ·exact ⟨(drv_right h).pos, by simp [Drv.rejd, (drv_right h).zero], fun _ => rfl⟩
  ·exact hs
theorem clS_u8 (T : TabL) (s : DrvS) : U8s (clS T s).2.1 := by
 unfold clS
 split
 ·intro x hx; cases hx
 ·split
  ·intro x hx; cases hx
  ·exact wrB_u8 _ _
theorem go_u8 (T : TabL) : ∀ (s : Drv.S) (xs : List Int), U8s (Drv.go (drvM T) s xs).2 := by
 intro s xs
 induction s, xs using Drv.go.induct (m := drvM T) with
 | case1 s => rw [Drv.go_nil]; intro x hx; cases hx
 | case2 s x r hq => rw [Drv.go_rej _ s hq]; intro x hx; cases hx
 | case3 s x r hq ih =>
  rw [Drv.go_cons _ s (by simpa using hq)]
  intro y hy
  rcases List.mem_append.1 hy with h | h
  ·unfold Drv.step at h
   split at h
   ·cases h
   ·split at h
    ·cases h
    ·exact wrB_u8 _ _ y h
  ·exact ih y h
theorem wrS_u8 (T : TabL) (s : DrvS) (b : List Int) : U8s (wrS T s b).2.1 := by
 unfold wrS
 split
 ·intro x hx; cases hx
 ·exact go_u8 T s.1 b
theorem ok00 {T : TabL} (h : TabOk T) : Drv.Ok (heldL T) T.nodes.length s00.1 := ⟨(drv_right h).pos, by simp [s00, (drv_right h).zero], fun q => (by cases q)⟩
end Go.Proofs.YtlmkokeapbleoaaGreat
