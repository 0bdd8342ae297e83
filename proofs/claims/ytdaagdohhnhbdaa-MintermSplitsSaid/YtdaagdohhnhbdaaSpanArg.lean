/- An argument that is a slice of spans, opened to its cells: the list it holds, whose numbers are ints. Condition: none. -/
import Derived.Test.YtdaagdohhnhbdaaCheck
import Derived.Deep.SlicePairs
import Derived.ChangeArms
import Derived.ChangeSame
namespace Go.Proofs.Ytdaagdohhnhbdaa
open Go.RowKit Go.ChangeShapes Go.WideShapes Go.Deep
set_option linter.unusedVariables false

theorem wf64 {z : Int} (h : (Lit.int .i64 z).wf = true) : -9223372036854775808 ≤ z ∧ z ≤ 9223372036854775807 := by
  simpa [Lit.wf, IntKind.min, IntKind.signed, IntKind.bits] using h
theorem open_spans {H : Type} {enc : TypeId × Value → H} {W : World} {base : Nat} {spare : Nat → Bool} {held : Bool} {fuel : Nat} {a : Option Addr} {len cap : Nat} {x : DataW H × List MemPlace}
    (h : DataW.trod enc Try.prog W base spare held fuel 24 [.slice a len cap] = some x) : ∃ l : List Sp, Spans W a len l ∧ SpW l ∧ len ≤ 9223372036854775807 := by
  rcases open_slice_pairs Try.underlying24 Try.underlying34 (by kernel_rfl) rfl rfl (by kernel_rfl) (by kernel_rfl) h with ⟨hcs, _⟩ | ⟨b, l, c, m, n, V0, V1, D0, D1, P0, P1, hcs, _, hl, hm, hmm, _, hc⟩
  · simp at hcs
    obtain ⟨rfl, rfl, rfl⟩ := hcs
    exact ⟨[], Sl.nil_ _ _ _, by simp [SpW], by omega⟩
  · simp at hcs
    obtain ⟨rfl, rfl, rfl⟩ := hcs
    have hlm : len ≤ m := by rw [hmm]; split <;> omega
    have each : ∀ i, ∃ p : Sp, i < len → (W.cell? (b.add (i * 2)) = some (.int .i64 p.1) ∧ W.cell? (b.add (i * 2 + 1)) = some (.int .i64 p.2) ∧ (Lit.int .i64 p.1).wf = true ∧ (Lit.int .i64 p.2).wf = true) := by
      intro i
      by_cases hi : i < len
      · obtain ⟨h1, h2, h3, h4⟩ := hc i (by omega)
        obtain ⟨z0, e0, _, w0⟩ := DataW.trod_int Try.underlying3 h3
        obtain ⟨z1, e1, _, w1⟩ := DataW.trod_int Try.underlying3 h4
        simp at e0 e1
        exact ⟨(z0, z1), fun _ => ⟨by rw [h1, e0], by rw [h2, e1], w0, w1⟩⟩
      · exact ⟨(0, 0), fun g => absurd g hi⟩
    obtain ⟨q, hq⟩ := Classical.skolem.1 each
    refine ⟨(List.range len).map q, ⟨by rw [spanCells_length]; simp, fun hn => ?_⟩, fun p hp => ?_, by have := hm; unfold maxLen at *; omega⟩
    · obtain ⟨bb, off, spot⟩ := b
      have h0 := (hq 0 hn).1
      have hs : spot = none := by simpa [Addr.add] using World.cell?_spot h0
      subst hs
      refine ⟨bb, off, rfl, fun j u hu => ?_⟩
      have ea : ∀ k, (⟨bb, off, none⟩ : Addr).add k = ⟨bb, off + k, none⟩ := fun k => by unfold Addr.add; split <;> simp_all
      have hj : j < len * 2 := by
        have := (List.getElem?_eq_some_iff.1 hu).1
        rw [spanCells_length] at this; simpa using this
      have hg : ((List.range len).map q)[j / 2]? = some (q (j / 2)) := by
        rw [List.getElem?_map, List.getElem?_range (by omega)]; rfl
      obtain ⟨s1, s2⟩ := spanCells_at _ _ _ hg
      obtain ⟨c1, c2, _, _⟩ := hq (j / 2) (by omega)
      rw [ea] at c1 c2
      rcases Nat.mod_two_eq_zero_or_one j with e | e
      · have ej : j / 2 * 2 = j := by omega
        rw [ej] at s1 c1
        rw [s1] at hu; cases hu; exact c1
      · have ej : j / 2 * 2 + 1 = j := by omega
        rw [ej] at s2 c2
        rw [s2] at hu; cases hu; exact c2
    · obtain ⟨i, hi, rfl⟩ := List.mem_map.1 hp
      have := hq i (List.mem_range.1 hi)
      exact ⟨wf64 this.2.2.1, wf64 this.2.2.2⟩
end Go.Proofs.Ytdaagdohhnhbdaa
