/- A row of slices that is sorted in place by the least numbers of what they hold: the row, its comparing function. Condition: no slice is empty, none lies in the row. -/
import Derived.Test.YtdaagdohhnhbdaaStab2
import Derived.Test.YtdaagdohhnhbdaaSort
import Derived.Test.YtdaagdohhnhbdaaMake
import Derived.Deep.QuietTactic
import Derived.Shelf.RegionOpenPlain
namespace Go.Proofs.Ytdaagdohhnhbdaa
open Go.RowKit
set_option linter.unusedVariables false

def KV.val (x : KV) : Value := .slice (some ⟨x.b, x.off, none⟩) x.n x.c
structure KSt (W : World) (base g cap : Nat) (xs : List KV) : Prop where
  row : W.ownsRow base 24 1 (.slice (some ⟨g, 0, none⟩) xs.length cap) xs.length (xs.map KV.val)
  good : ∀ x ∈ xs, x.b ≠ g ∧ 1 ≤ x.n ∧ x.n < 4611686018427387904 ∧ W.cell? ⟨x.b, x.off, none⟩ = some (.int .i64 x.key)
theorem KSt.drewN {W : World} {base g cap : Nat} {xs : List KV} (h : KSt W base g cap xs) (q : Nat) : KSt (W.drewN q) base g cap xs := ⟨h.row, h.good⟩
theorem KSt.at_ {W : World} {base g cap : Nat} {xs : List KV} (h : KSt W base g cap xs) {i : Nat} {x : KV} (hi : xs[i]? = some x) : W.cell? ⟨g, i, none⟩ = some x.val := by
  have hl := (List.getElem?_eq_some_iff.1 hi).1
  rw [h.row.cellAt i (by omega), List.getElem?_map, hi]; rfl
theorem KSt.key {W : World} {base g cap : Nat} {xs : List KV} (h : KSt W base g cap xs) {i : Nat} {x : KV} (hi : xs[i]? = some x) : 1 ≤ x.n ∧ x.n < 4611686018427387904 ∧ W.cell? ⟨x.b, x.off, none⟩ = some (.int .i64 x.key) :=
  (h.good x (List.mem_of_getElem? hi)).2
theorem KSt.st1 {W : World} {base g cap : Nat} {xs : List KV} (h : KSt W base g cap xs) {i j : Nat} {y : KV} (u : Value) (hj : xs[j]? = some y) (hij : i ≠ j) : (W.setCell ⟨g, i, none⟩ u).cell? ⟨g, j, none⟩ = some y.val := by
  have hl := (List.getElem?_eq_some_iff.1 hj).1
  rw [(h.row.stored i u).1.cellAt j (by omega), List.getElem?_set_ne hij, List.getElem?_map, hj]; rfl
theorem KSt.swap {W : World} {base g cap : Nat} {xs : List KV} (h : KSt W base g cap xs) {i j : Nat} {x y : KV} (hi : xs[i]? = some x) (hj : xs[j]? = some y) :
    KSt ((W.setCell ⟨g, i, none⟩ y.val).setCell ⟨g, j, none⟩ x.val) base g cap (swapL xs i j x y) ∧ W.grownBy ((W.setCell ⟨g, i, none⟩ y.val).setCell ⟨g, j, none⟩ x.val) (some g) := by
  obtain ⟨s1, g1⟩ := h.row.stored i y.val
  obtain ⟨s2, g2⟩ := s1.stored j x.val
  have hg := g1.trans g2
  have hp := swapL_perm hi hj
  refine ⟨⟨?_, fun z hz => ?_⟩, hg⟩
  · have e1 : (swapL xs i j x y).length = xs.length := by simp [swapL]
    have e2 : (swapL xs i j x y).map KV.val = ((xs.map KV.val).set i y.val).set j x.val := by simp [swapL, List.map_set]
    rw [e1, e2]; exact s2
  · obtain ⟨z1, z2, z3, z4⟩ := h.good z (hp.mem_iff.1 hz)
    exact ⟨z1, z2, z3, hg.cell z4 (fun e => z1 (by injection e))⟩
theorem eg79 : ∀ args w, (callFunc 79 args).run Try.prog w = .ok (.enter 79 args) w := enters_of Try.func79 (by kernel_rfl) rfl
/-- the comparing function: by the least numbers -/
theorem less_any (x y : KV) (W : World) (hx : 1 ≤ x.n ∧ x.n < 4611686018427387904 ∧ W.cell? ⟨x.b, x.off, none⟩ = some (.int .i64 x.key)) (hy : 1 ≤ y.n ∧ y.n < 4611686018427387904 ∧ W.cell? ⟨y.b, y.off, none⟩ = some (.int .i64 y.key)) :
    Drawn Try.prog 79 #[x.val, y.val] W (.int .i64 (cmpI x.key y.key)) := by
  obtain ⟨x1, x2, x3⟩ := hx
  obtain ⟨y1, y2, y3⟩ := hy
  obtain ⟨xb, xo, xn, xc, xk, xi⟩ := x
  obtain ⟨yb, yo, yn, yc, yk, yi⟩ := y
  simp only at x1 x2 x3 y1 y2 y3
  unfold KV.val
  simp only
  have hxn : (0 : Int) < xn := by omega
  have hyn : (0 : Int) < yn := by omega
  have HC := Lib.hid (Compare64_any xk yk)
  unfold Drawn
  go_enter Try.func79, Try.ntmps79
  go_wp2_with (go_quiet ((go_at_call 80; exact HC.out.quiet)))
  go_ret
  exact ⟨rfl, _, rfl⟩
theorem Drawn.at_ {P : Program} {f : FuncId} {args : Array Value} {w : World} {v : Value} (h : ∀ q, Drawn P f args (w.drewN q) v) (q : Nat) : Calls P f args (w.drewN q) fun e w'' => e = .returned v ∧ ∃ m, w'' = w.drewN m :=
  Calls.mono (h q) fun e w' ⟨he, n, hn⟩ => ⟨he, q + n, by rw [hn, World.drewN_drewN]⟩
theorem KSt.less {W : World} {base g cap : Nat} {xs : List KV} (h : KSt W base g cap xs) {i j : Nat} {x y : KV} (hi : xs[i]? = some x) (hj : xs[j]? = some y) (q : Nat) :
    Calls Try.prog 79 #[x.val, y.val] (W.drewN q) fun e w'' => e = .returned (.int .i64 (cmpI x.key y.key)) ∧ ∃ m, w'' = W.drewN m :=
  Drawn.at_ (fun q => less_any x y _ (h.key hi) (h.key hj)) q
theorem cmpI_lt {x y : Int} (h : x < y) : cmpI x y < 0 := by unfold cmpI; rw [if_pos h]; omega
theorem cmpI_nlt {x y : Int} (h : ¬ x < y) : ¬ cmpI x y < 0 := by unfold cmpI; rw [if_neg h]; split <;> omega
/-- what such a call does to its row -/
def KEnd (W : World) (base g cap : Nat) (R : List KV → Prop) (e : Ending) (w' : World) : Prop := e = .returned (.tuple #[]) ∧ ∃ ys, R ys ∧ KSt w' base g cap ys ∧ W.grownBy w' (some g)
/-- what is known on the way -/
def KGo (W : World) (base g cap : Nat) (ys : List KV) (w' : World) : Prop := KSt w' base g cap ys ∧ W.grownBy w' (some g)
theorem KGo.start {W : World} {base g cap : Nat} {xs : List KV} (h : KSt W base g cap xs) : KGo W base g cap xs W := ⟨h, ⟨rfl, rfl, rfl, Nat.le_refl _, fun _ _ _ => rfl⟩⟩
theorem grownBy_from {W w : World} {r : Option Nat} {q : Nat} (h : (W.drewN q).grownBy w r) : W.grownBy w r := ⟨h.os, h.tape, h.output, h.size, h.block⟩
theorem grownBy_to {W w : World} {r : Option Nat} (h : W.grownBy w r) (q : Nat) : W.grownBy (w.drewN q) r := ⟨h.os, h.tape, h.output, h.size, h.block⟩
theorem KGo.swap {W w : World} {base g cap : Nat} {xs : List KV} (h : KGo W base g cap xs w) (q : Nat) {i j : Nat} {x y : KV} (hi : xs[i]? = some x) (hj : xs[j]? = some y) :
    KGo W base g cap (swapL xs i j x y) (((w.drewN q).setCell ⟨g, i, none⟩ y.val).setCell ⟨g, j, none⟩ x.val) := by
  obtain ⟨h1, h2⟩ := (h.1.drewN q).swap hi hj
  exact ⟨h1, World.grownBy.trans h.2 (grownBy_from h2)⟩
theorem KGo.swp {W w : World} {base g cap : Nat} {xs : List KV} (h : KGo W base g cap xs w) {i j : Nat} {x y : KV} (hi : xs[i]? = some x) (hj : xs[j]? = some y) :
    KGo W base g cap (swapL xs i j x y) (((w.setCell ⟨g, i, none⟩ y.val).setCell ⟨g, j, none⟩ x.val).drew) := by
  obtain ⟨h1, h2⟩ := h.1.swap hi hj
  have h3 := World.grownBy.trans h.2 h2
  exact ⟨⟨h1.row, h1.good⟩, ⟨h3.os, h3.tape, h3.output, h3.size, h3.block⟩⟩
theorem KGo.drewN {W w : World} {base g cap : Nat} {xs : List KV} (h : KGo W base g cap xs w) (q : Nat) : KGo W base g cap xs (w.drewN q) := ⟨h.1.drewN q, grownBy_to h.2 q⟩
theorem KGo.call {W w w' : World} {base g cap : Nat} {xs ys : List KV} (h : KGo W base g cap xs w) (h1 : KSt w' base g cap ys) (h2 : w.grownBy w' (some g)) : KGo W base g cap ys w' := ⟨h1, World.grownBy.trans h.2 h2⟩

set_option maxRecDepth 100000 in
set_option maxHeartbeats 16000000 in
theorem ins_any (base g cap a b : Nat) (xs0 : List KV) (W : World) (hK : Hid (KSt W base g cap xs0)) (hix : Hid (IxB xs0 a b)) (hab : b ≤ xs0.length) (ha : a ≤ b) (hn : xs0.length < 1099511627776) :
    Calls Try.prog 112 #[.slice (some ⟨g, 0, none⟩) xs0.length cap, .int .i64 a, .int .i64 b, .func (.func 79) #[] #[]] W (KEnd W base g cap fun ys => Rch a b xs0 ys ∧ SrtB ys a b) := by
  have eg := eg79
  go_enter Try.func112, Try.ntmps112
  go_wp2_with fail
  go_loopw [8] (fun iv wr => ∃ (i : Nat) (xs : List KV), iv = .int .i64 i ∧ a + 1 ≤ i ∧ i ≤ b + 1 ∧ Hid (InsO a b xs0 xs i) ∧ Hid (KGo W base g cap xs wr)) (fun iv _ => b + 1 - (intOf iv).toNat)
  case atStart => exact ⟨a + 1, xs0, by go_num, Nat.le_refl _, by omega, Lib.hid (InsO.start hix.out _ (Nat.le_refl _)), Lib.hid (KGo.start hK.out)⟩
  case round =>
  obtain ⟨i, xs, rfl, hi1, hi2, HI, HG⟩ := hrel
  have hxl := HI.out.1.len
  by_cases hib : i < b
  · have HJ := Lib.hid (HI.out.go (by omega))
    go_wp2_with fail
    go_loopw [9] (fun jv wr => ∃ (j : Nat) (ys : List KV), jv = .int .i64 j ∧ a ≤ j ∧ j ≤ i ∧ Hid (InsI a b xs0 ys i j) ∧ Hid (KGo W base g cap ys wr)) (fun jv _ => (intOf jv).toNat)
    case atStart => exact ⟨i, xs, rfl, by omega, Nat.le_refl _, HJ, HG⟩
    case round =>
    obtain ⟨j0, ys, rfl, hj1, hj2, HJ, HG⟩ := hrel
    have hyl := HJ.out.1.len
    by_cases hja : a < j0
    · obtain ⟨j, rfl⟩ : ∃ j, j0 = j + 1 := ⟨j0 - 1, by omega⟩
      obtain ⟨x, hx⟩ := get_of_lt (xs := ys) (i := j + 1) (by omega)
      obtain ⟨y, hy⟩ := get_of_lt (xs := ys) (i := j) (by omega)
      have hc1 := HG.out.1.at_ hx
      have hc2 := HG.out.1.at_ hy
      have hf1 := HG.out.1.row.frozenAt j
      have hf2 := HG.out.1.row.frozenAt (j + 1)
      have HL := Lib.hid (HG.out.1.less hx hy)
      have hja' : (a : Int) < (j : Int) + 1 := by omega
      by_cases hk : x.key < y.key
      · have hcm := cmpI_lt hk
        have HJ2 := Lib.hid (HJ.out.down hib (by omega) hx (by simpa using hy) hk)
        rw [Nat.add_sub_cancel] at HJ2
        have HX := Lib.hid hx
        have HY := Lib.hid hy
        clear hx hy hk
        go_wp2_with (go_quiet ((go_at_call 79; exact HL.out _)))
        have HG2 := Lib.hid (HG.out.drewN nq)
        clear hc1 hc2 hf1 hf2
        generalize wr.drewN nq = w2 at HG2 ⊢
        have hc1 := HG2.out.1.at_ HX.out
        have hc2 := HG2.out.1.at_ HY.out
        have hf1 := HG2.out.1.row.frozenAt j
        have hf2 := HG2.out.1.row.frozenAt (j + 1)
        have hc3 := HG2.out.1.st1 (i := j + 1) y.val HY.out (by omega)
        have HSW := Lib.hid (HG2.out.swp HX.out HY.out)
        unfold KV.val at hc1 hc2 hc3
        have mixed : Try.prog.follows .mixedOrders = true := by kernel_rfl
        go_big_region_o
        clear hc1 hc2 hc3 hf1 hf2
        go_wp2_with fail
        exact ⟨⟨j, _, by go_num, by omega, by omega, HJ2, HSW⟩, by simp [intOf]⟩
      · have hcm := cmpI_nlt hk
        have HI2 := Lib.hid (HJ.out.done hix.out hib (.inr ⟨x, y, hx, by simpa using hy, hk⟩))
        clear hx hy hk
        go_wp2_with (go_quiet ((go_at_call 79; exact HL.out _)))
        exact ⟨⟨i + 1, ys, by go_num, by omega, by omega, HI2, Lib.hid (HG.out.drewN _)⟩, by simp [intOf]; omega⟩
    · obtain rfl : j0 = a := by omega
      have HI2 := Lib.hid (HJ.out.done hix.out hib (.inl rfl))
      go_wp2_with (go_quiet (fail))
      exact ⟨⟨i + 1, ys, by go_num, by omega, by omega, HI2, Lib.hid (HG.out.drewN _)⟩, by simp [intOf]; omega⟩
  · have hnb : ¬ ((i : Int) < b) := by omega
    go_wp2_with fail
    go_end0
    exact ⟨rfl, xs, ⟨HI.out.1, fun p q u v h1 h2 h3 => HI.out.2.1 p q u v h1 h2 (by omega)⟩, HG.out.1, HG.out.2⟩
end Go.Proofs.Ytdaagdohhnhbdaa
