/- An argument that is a slice of words, opened to its cells. Condition: none. -/
import Derived.Test.YtbllbifkckipdaaLawWordLists
import Derived.Deep.Matrix
import Derived.ChangeArms
import Derived.ChangeSame
namespace Go.Proofs.Ytbllbifkckipdaa
open Go.RowKit Go.ChangeShapes Go.WideShapes Go.Deep
set_option linter.unusedVariables false

theorem open_words {H : Type} {enc : TypeId × Value → H} {W : World} {base : Nat} {held : Bool} {fuel : Nat} {a : Option Addr} {len cap : Nat} {x : DataW H × List MemPlace}
    (h : DataW.trod enc Try.prog W base (fun _ => true) held fuel 49 [.slice a len cap] = some x) : ∃ l : List WordIn, WordsIn W a len l := by
  rcases open_int_rows Try.underlying49 Try.underlying23 Try.underlying21 (by kernel_rfl) (by kernel_rfl) h with ⟨hcs, _⟩ | ⟨b, n, c, A, L, C, Z, hcs, _, hnc, hcm, _, hr⟩
  · simp at hcs
    obtain ⟨rfl, rfl, rfl⟩ := hcs
    exact ⟨[], Items.nil_ _ _ _, by omega⟩
  · simp at hcs
    obtain ⟨rfl, rfl, rfl⟩ := hcs
    unfold maxLen at hcm
    have hrow : ∀ r, r < len → Ints .i32 W (A r) (L r) ((Z r).take (L r)) ∧ L r ≤ 9223372036854775807 ∧ ((Z r).take (L r)).length = L r := by
      intro r hr'
      obtain ⟨_, h1, h2, h3, h4, h5, h6⟩ := hr r (by omega)
      unfold maxLen at h2
      have hR : IsRow .i32 W (A r) (L r) (C r) (Z r) := by
        rcases hA : A r with _ | a'
        · have := h5 hA
          exact .inl ⟨rfl, by omega, this, List.eq_nil_of_length_eq_zero (by omega)⟩
        · exact .inr ⟨a', rfl, h1, by unfold maxLen; omega, h3, fun i hi => (h6 a' hA).2 i (by omega), h4⟩
      exact ⟨hR.ints, by omega, by rw [List.length_take]; omega⟩
    obtain ⟨bb, off, spot⟩ := b
    refine ⟨(List.range len).map fun r => (A r, C r, (Z r).take (L r)), ⟨⟨by rw [icells_length]; simp, fun hn => ?_⟩, fun i hi => ?_⟩, by omega⟩
    · have h0 := (hr 0 (by omega)).1
      have hs : spot = none := by simpa [Addr.add] using World.cell?_spot h0
      subst hs
      refine ⟨bb, off, rfl, fun j u hu => ?_⟩
      unfold icells at hu
      rw [List.getElem?_map, List.getElem?_map] at hu
      by_cases hj : j < len
      · rw [List.getElem?_range hj] at hu
        have hc := (hr j (by omega)).1
        have ea : (⟨bb, off, none⟩ : Addr).add j = ⟨bb, off + j, none⟩ := by unfold Addr.add; split <;> simp_all
        rw [ea] at hc
        simp only [Option.map_some, ival] at hu
        rw [(hrow j hj).2.2] at hu
        rw [hc]; exact hu
      · rw [List.getElem?_eq_none (by simpa using hj)] at hu; cases hu
    · obtain ⟨r, hr1, rfl⟩ := List.mem_map.1 hi
      have h1 := hrow r (List.mem_range.1 hr1)
      refine ⟨?_, ?_⟩
      · show Ints .i32 W (A r) ((Z r).take (L r)).length ((Z r).take (L r))
        rw [h1.2.2]; exact h1.1
      · show ((Z r).take (L r)).length ≤ _
        rw [h1.2.2]; exact h1.2.1
end Go.Proofs.Ytbllbifkckipdaa
