/- The state of a walk: what is known of the slices at hand stays known. No function of the program in sight. Condition: none. -/
import Derived.Test.YticfbbigljgjdaaBase
namespace Go.Proofs.Yticfbbigljgjdaa
open Go.RowKit
set_option linter.unusedVariables false

/-- what is known at a world stays known at whatever comes; nothing of the walk's beginning has changed -/
def St (w0 w : World) (F : World → Prop) : Prop := (∀ W, Below w.heap.size w W → F W) ∧ Below w0.heap.size w0 w
theorem St.start {w : World} {F : World → Prop} (h : ∀ W, Below w.heap.size w W → F W) : St w w F := ⟨h, Below.refl _ _⟩
theorem St.now {w0 w : World} {F : World → Prop} (h : St w0 w F) : F w := h.1 w (Below.refl _ _)
theorem St.step {w0 w w' : World} {F : World → Prop} (h : St w0 w F) (hb : Below w.heap.size w w') : St w0 w' F := ⟨fun W hW => h.1 W (below_to hb hW), below_to h.2 hb⟩
theorem St.add {w0 w w' : World} {F G : World → Prop} (h : St w0 w F) (hb : Below w.heap.size w w') (hG : ∀ W, Below w'.heap.size w' W → G W) : St w0 w' (fun W => G W ∧ F W) :=
  ⟨fun W hW => ⟨hG W hW, h.1 W (below_to hb hW)⟩, below_to h.2 hb⟩
theorem St.drewN {w0 w : World} {F : World → Prop} (h : St w0 w F) (q : Nat) : St w0 (w.drewN q) F := h.step (below_drewN (Below.refl _ _) q)
theorem St.alloc {w0 w : World} {F : World → Prop} (h : St w0 w F) (o : Obj) : St w0 (w.alloc o) F := h.step ((Below.refl _ _).alloc (Nat.le_refl _) o)
theorem St.weaken {w0 w : World} {F G : World → Prop} (h : St w0 w F) (hG : ∀ W, F W → G W) : St w0 w G := ⟨fun W hW => hG W (h.1 W hW), h.2⟩
theorem St.hstep {w0 w w' : World} {F : World → Prop} (h : Hid (St w0 w F)) (hb : Below w.heap.size w w') : Hid (St w0 w' F) := Lib.hid (h.out.step hb)
theorem St.hdrewN {w0 w : World} {F : World → Prop} (h : Hid (St w0 w F)) (q : Nat) : Hid (St w0 (w.drewN q) F) := Lib.hid (h.out.drewN q)

/-- a call that returns v -/
def RetV (w0 : World) (v : Value) (F : World → Prop) (e : Ending) (w' : World) : Prop := e = .returned v ∧ Hid (St w0 w' F)

theorem retV_gives {P : Program} {f : FuncId} {args : Array Value} {w0 w : World} {v : Value} {F : World → Prop} (hK : Hid (St w0 w F)) (h : Gives P f args w v) : Calls P f args w (RetV w0 v F) :=
  Calls.mono h fun e w' ⟨he, hb⟩ => ⟨he, St.hstep hK hb⟩
theorem retV_drawn {P : Program} {f : FuncId} {args : Array Value} {w0 w : World} {v : Value} {F : World → Prop} (hK : Hid (St w0 w F)) (h : Drawn P f args w v) : Calls P f args w (RetV w0 v F) :=
  retV_gives hK h.gives
theorem RetV.as {w0 : World} {v v' : Value} {F : World → Prop} {e : Ending} {w' : World} (h : RetV w0 v F e w') (hv : v = v') : RetV w0 v' F e w' := hv ▸ h
end Go.Proofs.Yticfbbigljgjdaa
