/- Contracts of umlautref04.Same and umlautref06.SameTerms: two terms, two lists of terms that are alike. Condition: the lists are known, and are alike. -/
import Derived.Test.YticfbbigljgjdaaTermOk
import Derived.Laws.StructEq
import Derived.Deep.RegionHeld3
import Derived.Deep.DeepCutAuto
namespace Go.Proofs.Yticfbbigljgjdaa
open Go.RowKit
set_option linter.unusedVariables false
set_option linter.unusedSimpArgs false
theorem guardPart : Try.prog.eqGuardType Try.prog.depth 76 = false := by kernel_rfl
theorem eqPart (x1 x2 x3 x4 : Int) (w : World) :
    (binOp .neq 76 (.agg #[.int .i64 x1, .int .i64 x2, .int .i64 x3, .int .i64 x4]) (.agg #[.int .i64 x1, .int .i64 x2, .int .i64 x3, .int .i64 x4])).run Try.prog w = .ok (.bool false) w := by
  have u3 := Try.underlying3
  have a3 := Try.isAgg3
  have z3 := Try.sizeOf3
  have hS : Try.prog.underlying 76 = some (.struct (Try.prog.fieldsOf 76)) := by kernel_rfl
  have hp : Try.prog.stoodInHeld 76 = false := by kernel_rfl
  rw [run_neq_struct, show (10000 : Nat) = 9999 + 1 from rfl, run_equalIn_agg w 9999 76 _ _ hS hp]
  simp only [Program.fieldsOf, Try.underlying76]
  go_simp
/-- the six cells of a term -/
def TermCells (b o : Nat) (i : TermI) (W : World) : Prop :=
  W.cell? ⟨b, o, none⟩ = some (.int .i64 i.b) ∧ W.cell? ⟨b, o + 1, none⟩ = some (.int .i64 i.d) ∧ W.cell? ⟨b, o + 2, none⟩ = some (.int .i64 i.t) ∧ W.cell? ⟨b, o + 3, none⟩ = some (.int .i64 i.u) ∧
    W.cell? ⟨b, o + 4, none⟩ = some (.int .i64 i.s) ∧ W.cell? ⟨b, o + 5, none⟩ = some (.slice i.pa i.ps.length i.pc)
theorem TermCells.below {b o : Nat} {i : TermI} {W W' : World} (h : TermCells b o i W) (hb : Below W.heap.size W W') : TermCells b o i W' := by
  obtain ⟨h0, h1, h2, h3, h4, h5⟩ := h
  exact ⟨(hb.cell (p := ⟨b, o, none⟩) (lt_of_cell h0)).trans h0, (hb.cell (p := ⟨b, o + 1, none⟩) (lt_of_cell h1)).trans h1, (hb.cell (p := ⟨b, o + 2, none⟩) (lt_of_cell h2)).trans h2,
    (hb.cell (p := ⟨b, o + 3, none⟩) (lt_of_cell h3)).trans h3, (hb.cell (p := ⟨b, o + 4, none⟩) (lt_of_cell h4)).trans h4, (hb.cell (p := ⟨b, o + 5, none⟩) (lt_of_cell h5)).trans h5⟩
theorem flat12 {a1 a2 a3 a4 a5 a6 : Prop} {b : Prop} (h : a1 ∧ a2 ∧ a3 ∧ a4 ∧ a5 ∧ a6) (g : b) : a1 ∧ a2 ∧ a3 ∧ a4 ∧ a5 ∧ a6 ∧ b := ⟨h.1, h.2.1, h.2.2.1, h.2.2.2.1, h.2.2.2.2.1, h.2.2.2.2.2, g⟩
section
variable {w0 w : World} {F : World → Prop}
set_option maxRecDepth 100000 in
set_option maxHeartbeats 16000000 in
theorem same04_st {A B : Option Addr} {l : List PartL} (hK : Hid (St w0 w F)) (hp : ∀ W, F W → PartsAt A l W) (hq : ∀ W, F W → PartsAt B l W) (b d t u s : Int) (c c2 : Nat) :
    Calls Try.prog 37 #[.agg #[.int .i64 b, .int .i64 d, .int .i64 t, .int .i64 u, .int .i64 s, .slice A l.length c], .agg #[.int .i64 b, .int .i64 d, .int .i64 t, .int .i64 u, .int .i64 s, .slice B l.length c2]] w (RetV w0 (.bool true) F) := by
  have HP := Lib.hid hp
  have HQ := Lib.hid hq
  have HK1 := St.box hK [.int .i64 b, .int .i64 d, .int .i64 t, .int .i64 u, .int .i64 s, .slice A l.length c] 74
  have HK := St.box HK1 [.int .i64 b, .int .i64 d, .int .i64 t, .int .i64 u, .int .i64 s, .slice B l.length c2] 74
  have hln := (hp _ hK.out.now).ln
  have hz : (w.alloc (.cells [.int .i64 b, .int .i64 d, .int .i64 t, .int .i64 u, .int .i64 s, .slice A l.length c].toArray 74)).heap.size = w.heap.size + 1 := by simp
  rw [hz] at HK
  have hg := guardPart
  clear hp hq hz HK1
  go_enter Try.func37, Try.ntmps37
  go_wp2_with fail
  go_loopw [5] (fun i wr => ∃ k : Nat, k ≤ l.length ∧ i = .int .i64 k ∧ Hid (St w0 wr (fun W => BoxC (w.heap.size + 1) [.int .i64 b, .int .i64 d, .int .i64 t, .int .i64 u, .int .i64 s, .slice B l.length c2] W ∧ BoxC w.heap.size [.int .i64 b, .int .i64 d, .int .i64 t, .int .i64 u, .int .i64 s, .slice A l.length c] W ∧ F W))) (fun i _ => l.length - (intOf i).toNat)
  case atStart => exact ⟨0, Nat.zero_le _, rfl, HK⟩
  case round =>
  clear HK
  obtain ⟨k, hk, rfl, HK⟩ := hrel
  have hc5 := HK.out.now.2.1 5 _ rfl
  have he5 := HK.out.now.1 5 _ rfl
  by_cases hlt : k < l.length
  · obtain ⟨pb, po, p, hA, hx, hw, hd0, hd1, hd2, hd3⟩ := (HP.out _ HK.out.now.2.2).at_ hlt
    obtain ⟨qb, qo, q, hB, hy, _, he0, he1, he2, he3⟩ := (HQ.out _ HK.out.now.2.2).at_ hlt
    obtain rfl : p = q := by rw [hx] at hy; exact Option.some.inj hy
    obtain ⟨x1, x2, x3, x4⟩ := p
    have hne := eqPart x1 x2 x3 x4
    simp only at hd0 hd1 hd2 hd3 he0 he1 he2 he3
    rw [hA] at hc5
    rw [hB] at he5
    clear hx hy hw hA hB
    go_wp2_with (go_quiet (fail))
    exact ⟨⟨k + 1, by omega, by go_num, St.hdrewN HK _⟩, by simp [intOf]; omega⟩
  · obtain rfl : k = l.length := by omega
    have hd : decide (l.length < l.length) = false := by simp
    go_wp2_with fail
    go_ret
    exact ⟨rfl, Lib.hid (HK.out.weaken fun _ h => h.2.2)⟩
set_option maxRecDepth 100000 in
set_option maxHeartbeats 16000000 in
theorem sameTerms_st (hK : Hid (St w0 w F)) {A B : Option Addr} {l m : List TermI} (hp : ∀ W, F W → TermsAt A l W) (hq : ∀ W, F W → TermsAt B m W) (he : l.map TermI.L = m.map TermI.L) (c c2 : Nat) :
    Calls Try.prog 28 #[.slice A l.length c, .slice B m.length c2] w (RetV w0 (.bool true) F) := by
  have HP := Lib.hid hp
  have HQ := Lib.hid hq
  have HE := Lib.hid he
  have hln := (hp _ hK.out.now).ln
  have hml : m.length = l.length := by have := congrArg List.length he; simpa using this.symm
  rw [hml]
  clear hp hq he
  go_enter Try.func28, Try.ntmps28
  go_wp2_with fail
  go_loopw [5] (fun i wr => ∃ k : Nat, k ≤ l.length ∧ i = .int .i64 k ∧ Hid (St w0 wr F)) (fun i _ => l.length - (intOf i).toNat)
  case atStart => exact ⟨0, Nat.zero_le _, rfl, hK⟩
  case round =>
  obtain ⟨k, hk, rfl, HK⟩ := hrel
  by_cases hlt : k < l.length
  · obtain ⟨pb, off, i, rfl, hx, hw, hd0, hd1, hd2, hd3, hd4, hd5⟩ := (HP.out _ HK.out.now).at_ hlt
    obtain ⟨qb, qff, j, rfl, hy, hv, he0, he1, he2, he3, he4, he5⟩ := (HQ.out _ HK.out.now).at_ (j := k) (by omega)
    have hij : i.L = j.L := by
      have := congrArg (fun z => z[k]?) HE.out
      simpa [hx, hy] using this
    have HKi := Lib.hid (HK.out.add (Below.refl _ _) (G := fun W => TermCells pb (off + k * 6) i W ∧ TermCells qb (qff + k * 6) j W ∧ PartsAt i.pa i.ps W ∧ PartsAt j.pa i.ps W) (fun W hW => ⟨TermCells.below ⟨hd0, hd1, hd2, hd3, hd4, hd5⟩ hW, TermCells.below ⟨he0, he1, he2, he3, he4, he5⟩ hW, hw.2.below hW, by
      have : j.ps = i.ps := congrArg TermL.parts hij.symm
      rw [← this]; exact hv.2.below hW⟩))
    obtain ⟨i1, i2, i3, i4, i5, i6, i7, i8⟩ := i
    obtain ⟨j1, j2, j3, j4, j5, j6, j7, j8⟩ := j
    unfold TermI.L at hij
    simp only [TermL.mk.injEq] at hij hd0 hd1 hd2 hd3 hd4 hd5 he0 he1 he2 he3 he4 he5
    obtain ⟨rfl, rfl, rfl, rfl, rfl, rfl⟩ := hij
    clear hx hw hy hv
    go_wp2_with fail
    have HK1 := St.hdrewN HKi 1
    go_region_held3 (fun W => W.cell? ⟨pb, off + k * 6, none⟩ = some (.int .i64 i1) ∧ W.cell? ⟨pb, off + k * 6 + 1, none⟩ = some (.int .i64 i2) ∧ W.cell? ⟨pb, off + k * 6 + 2, none⟩ = some (.int .i64 i3) ∧ W.cell? ⟨pb, off + k * 6 + 3, none⟩ = some (.int .i64 i4) ∧ W.cell? ⟨pb, off + k * 6 + 4, none⟩ = some (.int .i64 i5) ∧ W.cell? ⟨pb, off + k * 6 + 5, none⟩ = some (.slice i6 i8.length i7) ∧ W.cell? ⟨qb, qff + k * 6, none⟩ = some (.int .i64 i1) ∧ W.cell? ⟨qb, qff + k * 6 + 1, none⟩ = some (.int .i64 i2) ∧ W.cell? ⟨qb, qff + k * 6 + 2, none⟩ = some (.int .i64 i3) ∧ W.cell? ⟨qb, qff + k * 6 + 3, none⟩ = some (.int .i64 i4) ∧ W.cell? ⟨qb, qff + k * 6 + 4, none⟩ = some (.int .i64 i5) ∧ W.cell? ⟨qb, qff + k * 6 + 5, none⟩ = some (.slice j6 i8.length j7))
      (first | exact flat12 HK1.out.now.1.1 HK1.out.now.1.2.1 | go_keep)
      ((go_at_call 37; refine (same04_st HK1 (fun _ h => h.1.2.2.1) (fun _ h => h.1.2.2.2) i1 i2 i3 i4 i5 i7 j7).mono ?_; rintro e5 w5 ⟨rfl, HK1⟩))
    go_wp2_with fail
    exact ⟨⟨k + 1, by omega, by go_num, Lib.hid (HK1.out.weaken fun _ h => h.2)⟩, by simp [intOf]; omega⟩
  · obtain rfl : k = l.length := by omega
    have hd : decide (l.length < l.length) = false := by simp
    go_wp2_with fail
    go_ret
    exact ⟨rfl, HK⟩
end
end Go.Proofs.Yticfbbigljgjdaa
