/- An argument that is a slice of slices of spans, opened to its cells. Condition: none. -/
import Derived.Test.YtdaagdohhnhbdaaSpanArg
import Derived.Test.YtdaagdohhnhbdaaItems
import Derived.Deep.Slices
namespace Go.Proofs.Ytdaagdohhnhbdaa
open Go.RowKit Go.ChangeShapes Go.WideShapes Go.Deep
set_option linter.unusedVariables false

abbrev Lst3 := Item Sp
/-- a list that came in -/
def SpI (A : Option Addr) (l : List Sp) (W : World) : Prop := Spans W A l.length l ∧ SpW l ∧ l.length ≤ 9223372036854775807
theorem SpI.lasts : Lasts SpI := fun A l w w' h hb => ⟨h.1.below hb, h.2⟩
def SssIn (W : World) (A : Option Addr) (n : Nat) (L : List Lst3) : Prop := Items SpI A n L W ∧ n ≤ 9223372036854775807

theorem spans_shape {H : Type} {enc : TypeId × Value → H} {W : World} {base : Nat} {spare : Nat → Bool} {held : Bool} {fuel : Nat} {cs : List Value} {x : DataW H × List MemPlace}
    (h : DataW.trod enc Try.prog W base spare held fuel 24 cs = some x) : ∃ a len cap, cs = [.slice a len cap] := by
  rcases open_slice Try.underlying24 h with ⟨hcs, _⟩ | ⟨a, len, cap, m, n, D, Pl, hcs, _⟩
  · exact ⟨_, _, _, hcs⟩
  · exact ⟨_, _, _, hcs⟩
theorem open_sss {H : Type} {enc : TypeId × Value → H} {W : World} {base : Nat} {spare : Nat → Bool} {held : Bool} {fuel : Nat} {a : Option Addr} {len cap : Nat} {x : DataW H × List MemPlace}
    (h : DataW.trod enc Try.prog W base spare held fuel 45 [.slice a len cap] = some x) : ∃ l : List Lst3, SssIn W a len l := by
  have hC : Try.prog.cellsOf 24 = 1 := by kernel_rfl
  rcases open_slice Try.underlying45 h with ⟨hcs, _⟩ | ⟨b, l, c, m, n, D, Pl, hcs, _, hl, hm, hmm, _, hc⟩
  · simp at hcs
    obtain ⟨rfl, rfl, rfl⟩ := hcs
    exact ⟨[], Items.nil_ _ _ _, by omega⟩
  · simp at hcs
    obtain ⟨rfl, rfl, rfl⟩ := hcs
    have hlm : len ≤ m := by rw [hmm]; split <;> omega
    have each : ∀ i, ∃ it : Lst3, i < len → (W.cell? (b.add i) = some (.slice it.1 it.2.2.length it.2.1) ∧ SpI it.1 it.2.2 W) := by
      intro i
      by_cases hi : i < len
      · obtain ⟨cs', h1, h2⟩ := hc i (by omega)
        rw [hC] at h1
        obtain ⟨_, hlen, hat⟩ := World.cells?_some h1
        obtain ⟨a', len', cap', rfl⟩ := spans_shape h2
        obtain ⟨l', s1, s2, s3⟩ := open_spans h2
        have e := s1.len
        subst e
        have h0 := hat 0 (by omega)
        rw [Nat.mul_one] at h0
        refine ⟨(a', cap', l'), fun _ => ⟨?_, s1, s2, s3⟩⟩
        have e2 : (b.add i).add 0 = b.add i := by rw [Go.Deep.add_add]; rfl
        rw [e2] at h0
        simpa using h0
      · exact ⟨(none, 0, []), fun g => absurd g hi⟩
    obtain ⟨q, hq⟩ := Classical.skolem.1 each
    unfold maxLen at hm
    refine ⟨(List.range len).map q, ⟨⟨by rw [icells_length]; simp, fun hn => ?_⟩, fun it hit => ?_⟩, by omega⟩
    · obtain ⟨bb, off, spot⟩ := b
      have h0 := (hq 0 hn).1
      have hs : spot = none := by simpa [Addr.add] using World.cell?_spot h0
      subst hs
      refine ⟨bb, off, rfl, fun j u hu => ?_⟩
      unfold icells at hu
      rw [List.getElem?_map, List.getElem?_map] at hu
      by_cases hj : j < len
      · rw [List.getElem?_range hj] at hu
        have hc := (hq j hj).1
        have ea : (⟨bb, off, none⟩ : Addr).add j = ⟨bb, off + j, none⟩ := by unfold Addr.add; split <;> simp_all
        rw [ea] at hc
        simp only [Option.map_some, ival] at hu
        rw [hc]; exact hu
      · rw [List.getElem?_eq_none (by simpa using hj)] at hu; cases hu
    · obtain ⟨r, hr1, rfl⟩ := List.mem_map.1 hit
      exact (hq r (List.mem_range.1 hr1)).2
end Go.Proofs.Ytdaagdohhnhbdaa
