/- A row of records on its way, whose records hold rows of their own: what of memory it hangs on. No function of the program in sight. Condition: none. -/
import Derived.Test.YticfbbigljgjdaaReader
namespace Go.Proofs.Yticfbbigljgjdaa
open Go.RowKit
set_option linter.unusedVariables false
set_option linter.unusedSimpArgs false
/-- it holds, and holds wherever the blocks of P are as they are here -/
def Dep (P : Nat → Prop) (w : World) (G : World → Prop) : Prop := ∀ W, (∀ k, P k → k < w.heap.size → W.heap[k]? = w.heap[k]?) → G W
section
variable {P P' : Nat → Prop} {w w' : World} {G : World → Prop}
theorem Dep.now (h : Dep P w G) : G w := h w fun _ _ _ => rfl
theorem Dep.step (h : Dep P w G) (hk : ∀ k, P k → k < w.heap.size → w'.heap[k]? = w.heap[k]?) (hs : w.heap.size ≤ w'.heap.size) (hP : ∀ k, P k → k < w.heap.size → P' k) : Dep P' w' G :=
  fun W hW => h W fun k hp hl => (hW k (hP k hp hl) (Nat.lt_of_lt_of_le hl hs)).trans (hk k hp hl)
theorem Dep.mono (h : Dep P w G) (hP : ∀ k, P k → k < w.heap.size → P' k) : Dep P' w G := h.step (fun _ _ _ => rfl) (Nat.le_refl _) hP
theorem Dep.st (h : Dep P w G) : ∀ W, Below w.heap.size w W → G W := fun W hW => h W fun k _ hl => hW.block k hl
end
theorem own_keep {w w' : World} {base size : Nat} {t : TypeId} {A : Option Addr} {c n : Nat} {xs : List Value} (h : w.ownsRow base t size (.slice A n c) n xs) (hk : ∀ k, ownA A = some k → w'.heap[k]? = w.heap[k]?) : w'.ownsRow base t size (.slice A n c) n xs := by
  refine ⟨h.1, ?_⟩
  rcases h.2 with hn | ⟨g, cap, cur, h1, h2, h3, h4⟩
  · exact .inl hn
  · refine .inr ⟨g, cap, cur, h1, h2, (hk g ?_).trans h3, h4⟩
    rw [← own_ownA A n c, h1]; rfl
structure GoRow {α : Type} (n : Nat) (t : TypeId) (size : Nat) (f : α → List Value) (R : α → World → Prop) (A : Option Addr) (c : Nat) (L : List α) (W : World) : Prop where
  own : W.ownsRow n t size (.slice A L.length c) L.length (L.flatMap f)
  dep : ∀ x ∈ L, Dep (fun k => n ≤ k ∧ some k ≠ ownA A) W (R x)
section
variable {α : Type} {n : Nat} {t : TypeId} {size : Nat} {f : α → List Value} {R : α → World → Prop} {A : Option Addr} {c : Nat} {L : List α} {W W' : World}
theorem GoRow.rlt (h : GoRow n t size f R A c L W) : ∀ k, ownA A = some k → n ≤ k ∧ k < W.heap.size := fun k hk => h.own.lt k (by rw [own_ownA]; exact hk)
theorem GoRow.keep (h : GoRow n t size f R A c L W) (hs : W.heap.size ≤ W'.heap.size) (hk : ∀ k, n ≤ k → k < W.heap.size → W'.heap[k]? = W.heap[k]?) : GoRow n t size f R A c L W' :=
  ⟨own_keep h.own fun k hA => hk k (h.rlt k hA).1 (h.rlt k hA).2, fun x hx => (h.dep x hx).step (fun k hp hl => hk k hp.1 hl) hs fun k hp _ => hp⟩
theorem GoRow.alloc (h : GoRow n t size f R A c L W) (o : Obj) : GoRow n t size f R A c L (W.alloc o) := h.keep (by simp) fun k _ hl => Below.heap_alloc _ _ _ hl
theorem GoRow.drewN (h : GoRow n t size f R A c L W) (q : Nat) : GoRow n t size f R A c L (W.drewN q) := h.keep (Nat.le_refl _) fun k _ hl => rfl
theorem GoRow.only (h : GoRow n t size f R A c L W) {rb : Nat} (hr : rb < n) (ho : Only rb none W W') : GoRow n t size f R A c L W' :=
  h.keep ho.size fun k hk hl => ho.block k hl (by omega) (by simp)
theorem GoRow.only2 (h : GoRow n t size f R A c L W) {rb tb : Nat} (hr : rb < n) (ht : tb < n) (ho : Only rb (some tb) W W') : GoRow n t size f R A c L W' :=
  h.keep ho.size fun k hk hl => ho.block k hl (by omega) (by intro e; injection e with e; omega)
theorem GoRow.set (h : GoRow n t size f R A c L W) (b i : Nat) (v : Value) (hb : b < n) : GoRow n t size f R A c L (W.setCell ⟨b, i, none⟩ v) :=
  h.keep (by simp [World.setCell]) fun k hk _ => heap_setCell_other _ _ _ _ (fun e => by have e : k = b := e; omega)
theorem GoRow.nil_ (n : Nat) (t : TypeId) (size : Nat) (f : α → List Value) (R : α → World → Prop) (W : World) : GoRow n t size f R none 0 [] W :=
  ⟨⟨by simp, .inl ⟨rfl, rfl⟩⟩, fun x hx => by cases hx⟩
/-- one record more -/
theorem GoRow.push (h : GoRow n t size f R A c L W) {A' : Option Addr} {c' : Nat} {x : α} {o : Obj} (ho : W'.ownsRow n t size (.slice A' (L.length + 1) c') (L.length + 1) (L.flatMap f ++ f x))
    (hg : (W.alloc o).grownBy W' (ownA A)) (hn : Newer (ownA A) (ownA A') (W.heap.size + 1)) (hx : Dep (fun k => n ≤ k ∧ some k ≠ ownA A) W (R x)) : GoRow n t size f R A' c' (L ++ [x]) W' := by
  have hs : W.heap.size ≤ W'.heap.size := Nat.le_trans (by simp) hg.size
  have hd : ∀ G, Dep (fun k => n ≤ k ∧ some k ≠ ownA A) W G → Dep (fun k => n ≤ k ∧ some k ≠ ownA A') W' G := fun G hG => hG.step
    (fun k hp hl => (hg.block k (by simp; omega) hp.2).trans (Below.heap_alloc _ _ _ hl)) hs
    (fun k hp hl => ⟨hp.1, by
      rcases hn with e | ⟨g, e, hgl⟩
      · rw [e]; exact hp.2
      · rw [e]; intro e2; injection e2 with e2; omega⟩)
  refine ⟨?_, fun y hy => ?_⟩
  · rw [List.length_append, List.flatMap_append]
    simpa using ho
  · rcases List.mem_append.1 hy with hy | hy
    · exact hd _ (h.dep y hy)
    · rw [List.mem_singleton] at hy; subst hy; exact hd _ hx
/-- the row is done -/
theorem GoRow.rows (h : GoRow n t size f R A c L W) (hl : L.length ≤ 9223372036854775807) : Dep (fun k => n ≤ k) W (RowsAt size f R A L) := fun V hV =>
  ⟨Sl.of_own (own_keep h.own fun k hk => hV k (h.rlt k hk).1 (h.rlt k hk).2), fun x hx => h.dep x hx V fun k hp hk => hV k hp.1 hk, hl⟩
end
end Go.Proofs.Yticfbbigljgjdaa
