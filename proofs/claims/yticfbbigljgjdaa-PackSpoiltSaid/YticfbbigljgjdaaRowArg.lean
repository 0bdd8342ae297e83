/- Openers for arguments that are slices of records: from the claim's reading of a slice to 'RowsAt'. Condition: none. -/
import Derived.Test.YticfbbigljgjdaaTab
import Derived.Deep.Slices
import Derived.OpenShut
import Derived.ChangeArms
import Derived.ChangeSame
namespace Go.Proofs.Yticfbbigljgjdaa
open Go.RowKit Go.ChangeShapes Go.WideShapes Go.Deep
set_option linter.unusedVariables false
section
variable {H : Type} {enc : TypeId × Value → H} {W : World} {base : Nat} {spare : Nat → Bool} {held : Bool}
/-- what is read at type t is some a's cells, and R holds of it -/
def OpensAs (enc : TypeId × Value → H) (W : World) (base : Nat) (spare : Nat → Bool) (held : Bool) (t : TypeId) {α : Type} (f : α → List Value) (R : α → World → Prop) : Prop :=
  ∀ (fuel : Nat) (cs : List Value) (x : DataW H × List MemPlace), DataW.trod enc Try.prog W base spare held fuel t cs = some x → ∃ a, cs = f a ∧ R a W
theorem opens_int : OpensAs enc W base spare held 3 (fun z => [Value.int .i64 z]) (fun z _ => I64 z) := fun fuel cs x h => by
  obtain ⟨z, e, _, w⟩ := DataW.trod_int Try.underlying3 h
  exact ⟨z, e, I64.of_wf w⟩
theorem add_none (b off k : Nat) : (⟨b, off, none⟩ : Addr).add k = ⟨b, off + k, none⟩ := by unfold Addr.add; split <;> simp_all
theorem opens_slice {t e : TypeId} {α : Type} {size : Nat} {f : α → List Value} {R : α → World → Prop} (ht : Try.prog.underlying t = some (.slice e)) (hce : Try.prog.cellsOf e = size) (hs : 0 < size) (hf : ∀ a, (f a).length = size)
    (he : OpensAs enc W base spare held e f R) {fuel : Nat} {cs : List Value} {x : DataW H × List MemPlace} (h : DataW.trod enc Try.prog W base spare held fuel t cs = some x) :
    ∃ A L c, cs = [Value.slice A L.length c] ∧ RowsAt size f R A L W ∧ L.length ≤ c ∧ c ≤ 9223372036854775807 := by
  rcases open_slice ht h with ⟨hcs, _⟩ | ⟨b, len, cap, m, n, D, Pl, hcs, _, hl, hm, hmm, _, hc⟩
  · exact ⟨none, [], 0, hcs, RowsAt.nil_ _ _ _ _ _, Nat.le_refl _, by omega⟩
  · have hlm : len ≤ m := by rw [hmm]; split <;> omega
    unfold maxLen at hm
    rcases Nat.eq_zero_or_pos len with h0 | hpos
    · subst h0
      exact ⟨some b, [], cap, hcs, RowsAt.nil_ _ _ _ _ _, Nat.zero_le _, hm⟩
    have each : ∀ i, ∃ a : α, i < len → ((∀ j u, (f a)[j]? = some u → W.cell? (b.add (i * size + j)) = some u) ∧ R a W) := by
      intro i
      obtain ⟨cs0, h10, h20⟩ := hc 0 (by omega)
      obtain ⟨a0, e0, r0⟩ := he _ _ _ h20
      by_cases hi : i < len
      · obtain ⟨cs', h1, h2⟩ := hc i (by omega)
        rw [hce] at h1
        obtain ⟨_, hlen, hat⟩ := World.cells?_some h1
        obtain ⟨a, rfl, r⟩ := he _ _ _ h2
        refine ⟨a, fun _ => ⟨fun j u hu => ?_, r⟩⟩
        have hj : j < size := by have := (List.getElem?_eq_some_iff.1 hu).1; rwa [hf] at this
        have := hat j (by omega)
        rw [Go.Deep.add_add] at this
        rw [this, hu]
      · exact ⟨a0, fun g => absurd g hi⟩
    obtain ⟨q, hq⟩ := Classical.skolem.1 each
    have hL : ((List.range len).map q).length = len := by simp
    refine ⟨some b, (List.range len).map q, cap, by rw [hL]; exact hcs, ⟨⟨?_, fun _ => ?_⟩, fun a ha => ?_, by rw [hL]; omega⟩, by rw [hL]; exact hl, hm⟩
    · rw [hL]
      have : ∀ l : List α, (l.flatMap f).length = l.length * size := by
        intro l; induction l with
        | nil => simp
        | cons y l ih => rw [List.flatMap_cons, List.length_append, ih, hf, List.length_cons, Nat.succ_mul]; omega
      rw [this, hL]
    · obtain ⟨bb, off, spot⟩ := b
      have hu0 : ∃ u, (f (q 0))[0]? = some u := ⟨(f (q 0))[0]'(by rw [hf]; exact hs), by simp [hf, hs]⟩
      obtain ⟨u0, hu0⟩ := hu0
      have h0 := (hq 0 hpos).1 0 u0 hu0
      have hs0 : spot = none := by simpa [Addr.add] using World.cell?_spot h0
      subst hs0
      refine ⟨bb, off, rfl, fun j u hu => ?_⟩
      have hjl : j < len * size := by
        have := (List.getElem?_eq_some_iff.1 hu).1
        have h2 : ∀ l : List α, (l.flatMap f).length = l.length * size := by
          intro l; induction l with
          | nil => simp
          | cons y l ih => rw [List.flatMap_cons, List.length_append, ih, hf, List.length_cons, Nat.succ_mul]; omega
        rw [h2, hL] at this; exact this
      have hdm := Nat.div_add_mod j size
      have hdl : j / size < len := (Nat.div_lt_iff_lt_mul hs).2 hjl
      have hmod := Nat.mod_lt j hs
      have hx : ((List.range len).map q)[j / size]? = some (q (j / size)) := by simp [hdl]
      obtain ⟨u', hu'⟩ : ∃ u', (f (q (j / size)))[j % size]? = some u' := ⟨(f (q (j / size)))[j % size]'(by rw [hf]; exact hmod), by simp [hf, hmod]⟩
      have h3 := flatMap_at hf hx hu'
      rw [Nat.mul_comm, hdm] at h3
      rw [h3] at hu
      injection hu with hu
      subst hu
      have := (hq _ hdl).1 _ _ hu'
      rw [Nat.mul_comm, hdm, add_none] at this
      exact this
    · obtain ⟨r, hr, rfl⟩ := List.mem_map.1 ha
      exact (hq r (List.mem_range.1 hr)).2
end
end Go.Proofs.Yticfbbigljgjdaa
