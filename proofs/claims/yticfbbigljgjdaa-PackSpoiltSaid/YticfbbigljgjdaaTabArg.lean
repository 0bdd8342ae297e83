/- Openers for arguments that are tables. Condition: none. -/
import Derived.Test.YticfbbigljgjdaaRowArg
namespace Go.Proofs.Yticfbbigljgjdaa
open Go.RowKit Go.ChangeShapes Go.WideShapes Go.Deep
set_option linter.unusedVariables false
set_option linter.unusedSimpArgs false
set_option maxRecDepth 100000
theorem list3 {α : Type} {l : List α} (h : l.length = 3) : ∃ a b c, l = [a, b, c] := by
  match l, h with
  | [a, b, c], _ => exact ⟨a, b, c, rfl⟩
theorem list4 {α : Type} {l : List α} (h : l.length = 4) : ∃ a b c d, l = [a, b, c, d] := by
  match l, h with
  | [a, b, c, d], _ => exact ⟨a, b, c, d, rfl⟩
theorem list6 {α : Type} {l : List α} (h : l.length = 6) : ∃ a b c d e f, l = [a, b, c, d, e, f] := by
  match l, h with
  | [a, b, c, d, e, f], _ => exact ⟨a, b, c, d, e, f, rfl⟩
section
variable {H : Type} {enc : TypeId × Value → H} {W : World} {base : Nat} {spare : Nat → Bool} {held : Bool}
theorem opens_part : OpensAs enc W base spare held 76 partC (fun p _ => PartW p) := fun fuel cs x h => by
  obtain ⟨xs, n, _, rfl, hl, hlen, hf⟩ := DataW.trod_struct Try.underlying76 h
  rw [show Try.prog.cellsOf 76 = 4 from by kernel_rfl] at hl
  obtain ⟨c0, c1, c2, c3, rfl⟩ := list4 hl
  obtain ⟨x0, x1, x2, x3, rfl⟩ := list4 hlen
  have h0 : DataW.trod enc Try.prog W base spare held n 3 [c0] = some x0 := by have := hf 0 _ rfl; simpa [show Try.prog.cellsOf 3 = 1 from by kernel_rfl] using this
  have h1 : DataW.trod enc Try.prog W base spare held n 3 [c1] = some x1 := by have := hf 1 _ rfl; simpa [show Try.prog.cellsOf 3 = 1 from by kernel_rfl] using this
  have h2 : DataW.trod enc Try.prog W base spare held n 3 [c2] = some x2 := by have := hf 2 _ rfl; simpa [show Try.prog.cellsOf 3 = 1 from by kernel_rfl] using this
  have h3 : DataW.trod enc Try.prog W base spare held n 3 [c3] = some x3 := by have := hf 3 _ rfl; simpa [show Try.prog.cellsOf 3 = 1 from by kernel_rfl] using this
  obtain ⟨z0, e0, w0⟩ := opens_int _ _ _ h0
  obtain ⟨z1, e1, w1⟩ := opens_int _ _ _ h1
  obtain ⟨z2, e2, w2⟩ := opens_int _ _ _ h2
  obtain ⟨z3, e3, w3⟩ := opens_int _ _ _ h3
  simp only [List.cons.injEq, and_true] at e0 e1 e2 e3
  exact ⟨(z0, z1, z2, z3), by rw [e0, e1, e2, e3]; rfl, ⟨w0, w1, w2, w3⟩⟩
theorem open_parts {fuel : Nat} {cs : List Value} {x : DataW H × List MemPlace} (h : DataW.trod enc Try.prog W base spare held fuel 72 cs = some x) :
    ∃ A L c, cs = [Value.slice A L.length c] ∧ PartsAt A L W ∧ L.length ≤ c ∧ c ≤ 9223372036854775807 := opens_slice (size := 4) Try.underlying72 (by kernel_rfl) (by decide) (fun _ => rfl) opens_part h
theorem opens_term : OpensAs enc W base spare held 74 termC TermW := fun fuel cs x h => by
  obtain ⟨xs, n, _, rfl, hl, hlen, hf⟩ := DataW.trod_struct Try.underlying74 h
  rw [show Try.prog.cellsOf 74 = 6 from by kernel_rfl] at hl
  obtain ⟨c0, c1, c2, c3, c4, c5, rfl⟩ := list6 hl
  obtain ⟨x0, x1, x2, x3, x4, x5, rfl⟩ := list6 hlen
  have h0 : DataW.trod enc Try.prog W base spare held n 3 [c0] = some x0 := by have := hf 0 _ rfl; simpa [show Try.prog.cellsOf 3 = 1 from by kernel_rfl] using this
  have h1 : DataW.trod enc Try.prog W base spare held n 3 [c1] = some x1 := by have := hf 1 _ rfl; simpa [show Try.prog.cellsOf 3 = 1 from by kernel_rfl] using this
  have h2 : DataW.trod enc Try.prog W base spare held n 3 [c2] = some x2 := by have := hf 2 _ rfl; simpa [show Try.prog.cellsOf 3 = 1 from by kernel_rfl] using this
  have h3 : DataW.trod enc Try.prog W base spare held n 3 [c3] = some x3 := by have := hf 3 _ rfl; simpa [show Try.prog.cellsOf 3 = 1 from by kernel_rfl] using this
  have h4 : DataW.trod enc Try.prog W base spare held n 3 [c4] = some x4 := by have := hf 4 _ rfl; simpa [show Try.prog.cellsOf 3 = 1 from by kernel_rfl] using this
  have h5 : DataW.trod enc Try.prog W base spare held n 72 [c5] = some x5 := by have := hf 5 _ rfl; simpa [show Try.prog.cellsOf 72 = 1 from by kernel_rfl] using this
  obtain ⟨z0, e0, w0⟩ := opens_int _ _ _ h0
  obtain ⟨z1, e1, w1⟩ := opens_int _ _ _ h1
  obtain ⟨z2, e2, w2⟩ := opens_int _ _ _ h2
  obtain ⟨z3, e3, w3⟩ := opens_int _ _ _ h3
  obtain ⟨z4, e4, w4⟩ := opens_int _ _ _ h4
  obtain ⟨A5, L5, C5, e5, w5, hc5, _⟩ := open_parts h5
  simp only [List.cons.injEq, and_true] at e0 e1 e2 e3 e4 e5
  exact ⟨⟨z0, z1, z2, z3, z4, A5, C5, L5⟩, by rw [e0, e1, e2, e3, e4, e5]; rfl, ⟨⟨w0, w1, w2, w3, w4⟩, w5⟩⟩
theorem open_terms {fuel : Nat} {cs : List Value} {x : DataW H × List MemPlace} (h : DataW.trod enc Try.prog W base spare held fuel 49 cs = some x) :
    ∃ A L c, cs = [Value.slice A L.length c] ∧ TermsAt A L W ∧ L.length ≤ c ∧ c ≤ 9223372036854775807 := opens_slice (size := 6) Try.underlying49 (by kernel_rfl) (by decide) (fun _ => rfl) opens_term h
theorem opens_out : OpensAs enc W base spare held 49 (fun o => [OutI.v o]) OutW := fun fuel cs x h => by
  obtain ⟨A, L, c, e, w, _, _⟩ := open_terms h
  exact ⟨⟨A, c, L⟩, e, w⟩
theorem open_outs {fuel : Nat} {cs : List Value} {x : DataW H × List MemPlace} (h : DataW.trod enc Try.prog W base spare held fuel 25 cs = some x) :
    ∃ A L c, cs = [Value.slice A L.length c] ∧ EndsAt A L W ∧ L.length ≤ c ∧ c ≤ 9223372036854775807 := opens_slice (size := 1) Try.underlying25 (by kernel_rfl) (by decide) (fun _ => rfl) opens_out h
theorem open_intsR {fuel : Nat} {cs : List Value} {x : DataW H × List MemPlace} (h : DataW.trod enc Try.prog W base spare held fuel 45 cs = some x) :
    ∃ A L c, cs = [Value.slice A L.length c] ∧ IntsAt A L W ∧ L.length ≤ c ∧ c ≤ 9223372036854775807 := opens_slice (size := 1) Try.underlying45 (by kernel_rfl) (by decide) (fun _ => rfl) opens_int h
theorem opens_node : OpensAs enc W base spare held 47 nodeC NodeW := fun fuel cs x h => by
  obtain ⟨xs, n, _, rfl, hl, hlen, hf⟩ := DataW.trod_struct Try.underlying47 h
  rw [show Try.prog.cellsOf 47 = 3 from by kernel_rfl] at hl
  obtain ⟨c0, c1, c2, rfl⟩ := list3 hl
  obtain ⟨x0, x1, x2, rfl⟩ := list3 hlen
  have h0 : DataW.trod enc Try.prog W base spare held n 3 [c0] = some x0 := by have := hf 0 _ rfl; simpa [show Try.prog.cellsOf 3 = 1 from by kernel_rfl] using this
  have h1 : DataW.trod enc Try.prog W base spare held n 45 [c1] = some x1 := by have := hf 1 _ rfl; simpa [show Try.prog.cellsOf 45 = 1 from by kernel_rfl] using this
  have h2 : DataW.trod enc Try.prog W base spare held n 3 [c2] = some x2 := by have := hf 2 _ rfl; simpa [show Try.prog.cellsOf 3 = 1 from by kernel_rfl] using this
  obtain ⟨z0, e0, w0⟩ := opens_int _ _ _ h0
  obtain ⟨A1, L1, C1, e1, w1, hc1, _⟩ := open_intsR h1
  obtain ⟨z2, e2, w2⟩ := opens_int _ _ _ h2
  simp only [List.cons.injEq, and_true] at e0 e1 e2
  exact ⟨⟨z0, A1, C1, L1, z2⟩, by rw [e0, e1, e2]; rfl, ⟨⟨w0, w2⟩, w1⟩⟩
theorem opens_act : OpensAs enc W base spare held 51 actC ActW := fun fuel cs x h => by
  obtain ⟨xs, n, _, rfl, hl, hlen, hf⟩ := DataW.trod_struct Try.underlying51 h
  rw [show Try.prog.cellsOf 51 = 3 from by kernel_rfl] at hl
  obtain ⟨c0, c1, c2, rfl⟩ := list3 hl
  obtain ⟨x0, x1, x2, rfl⟩ := list3 hlen
  have h0 : DataW.trod enc Try.prog W base spare held n 3 [c0] = some x0 := by have := hf 0 _ rfl; simpa [show Try.prog.cellsOf 3 = 1 from by kernel_rfl] using this
  have h1 : DataW.trod enc Try.prog W base spare held n 3 [c1] = some x1 := by have := hf 1 _ rfl; simpa [show Try.prog.cellsOf 3 = 1 from by kernel_rfl] using this
  have h2 : DataW.trod enc Try.prog W base spare held n 49 [c2] = some x2 := by have := hf 2 _ rfl; simpa [show Try.prog.cellsOf 49 = 1 from by kernel_rfl] using this
  obtain ⟨z0, e0, w0⟩ := opens_int _ _ _ h0
  obtain ⟨z1, e1, w1⟩ := opens_int _ _ _ h1
  obtain ⟨A2, L2, C2, e2, w2, hc2, _⟩ := open_terms h2
  simp only [List.cons.injEq, and_true] at e0 e1 e2
  exact ⟨⟨z0, z1, ⟨A2, C2, L2⟩⟩, by rw [e0, e1, e2]; rfl, ⟨⟨w0, w1⟩, w2⟩⟩
theorem open_nodes {fuel : Nat} {cs : List Value} {x : DataW H × List MemPlace} (h : DataW.trod enc Try.prog W base spare held fuel 23 cs = some x) :
    ∃ A L c, cs = [Value.slice A L.length c] ∧ NodesAt A L W ∧ L.length ≤ c ∧ c ≤ 9223372036854775807 := opens_slice (size := 3) Try.underlying23 (by kernel_rfl) (by decide) (fun _ => rfl) opens_node h
theorem open_acts {fuel : Nat} {cs : List Value} {x : DataW H × List MemPlace} (h : DataW.trod enc Try.prog W base spare held fuel 24 cs = some x) :
    ∃ A L c, cs = [Value.slice A L.length c] ∧ ActsAt A L W ∧ L.length ≤ c ∧ c ≤ 9223372036854775807 := opens_slice (size := 3) Try.underlying24 (by kernel_rfl) (by decide) (fun _ => rfl) opens_act h
theorem open_cls {fuel : Nat} {cs : List Value} {x : DataW H × List MemPlace} (h : DataW.trod enc Try.prog W base spare held fuel 22 cs = some x) : ∃ l : List Int, l.length = 256 ∧ U8s l ∧ cs = l.map (Value.int .u8) := by
  obtain ⟨xs, m, _, _, hl, hlen, hf⟩ := DataW.trod_array Try.underlying22 h
  rw [show Try.prog.cellsOf 22 = 256 from by kernel_rfl] at hl
  rw [show Try.prog.cellsOf 5 = 1 from by kernel_rfl] at hf
  have each : ∀ i, ∃ z : Int, i < 256 → (cs[i]? = some (Value.int .u8 z) ∧ 0 ≤ z ∧ z < 256) := by
    intro i
    by_cases hi : i < 256
    · have h1 := hf i hi
      rw [List.getElem?_eq_getElem (show i < xs.length by omega)] at h1
      obtain ⟨z, e, _, w⟩ := DataW.trod_int Try.underlying5 h1
      refine ⟨z, fun _ => ⟨?_, ?_⟩⟩
      · have := congrArg (fun l => l[0]?) e
        simpa using this
      · simp [Lit.wf, IntKind.min, IntKind.max, IntKind.signed, IntKind.bits] at w
        omega
    · exact ⟨0, fun g => absurd g hi⟩
  obtain ⟨q, hq⟩ := Classical.skolem.1 each
  refine ⟨(List.range 256).map q, by simp, fun z hz => ?_, ?_⟩
  · obtain ⟨i, hi, rfl⟩ := List.mem_map.1 hz
    exact (hq i (List.mem_range.1 hi)).2
  · refine List.ext_getElem? fun i => ?_
    by_cases hi : i < 256
    · rw [(hq i hi).1]; simp [List.getElem?_range hi]
    · rw [List.getElem?_eq_none (by omega), List.getElem?_eq_none (by simp; omega)]
theorem open_table {fuel : Nat} {cs : List Value} {x : DataW H × List MemPlace} (h : DataW.trod enc Try.prog W base spare held fuel 27 cs = some x) : ∃ T : TabI, TabC cs.toArray T ∧ TabW T W := by
  obtain ⟨xs, n, _, rfl, hl, hlen, hf⟩ := DataW.trod_struct Try.underlying27 h
  rw [show Try.prog.cellsOf 27 = 259 from by kernel_rfl] at hl
  obtain ⟨x0, x1, x2, x3, rfl⟩ := list4 hlen
  have h0 : DataW.trod enc Try.prog W base spare held n 22 (cs.take 256) = some x0 := by have := hf 0 _ rfl; simpa [show Try.prog.cellsOf 22 = 256 from by kernel_rfl] using this
  have h1 : DataW.trod enc Try.prog W base spare held n 23 ((cs.drop 256).take 1) = some x1 := by have := hf 1 _ rfl; simpa [show Try.prog.cellsOf 23 = 1 from by kernel_rfl] using this
  have h2 : DataW.trod enc Try.prog W base spare held n 24 ((cs.drop 257).take 1) = some x2 := by have := hf 2 _ rfl; simpa [show Try.prog.cellsOf 24 = 1 from by kernel_rfl] using this
  have h3 : DataW.trod enc Try.prog W base spare held n 25 ((cs.drop 258).take 1) = some x3 := by have := hf 3 _ rfl; simpa [show Try.prog.cellsOf 25 = 1 from by kernel_rfl] using this
  obtain ⟨l, hl1, hl2, hl3⟩ := open_cls h0
  obtain ⟨A1, L1, C1, e1, w1, _, _⟩ := open_nodes h1
  obtain ⟨A2, L2, C2, e2, w2, _, _⟩ := open_acts h2
  obtain ⟨A3, L3, C3, e3, w3, _, _⟩ := open_outs h3
  have at1 : ∀ (k : Nat) (v : Value), (cs.drop k).take 1 = [v] → cs.toArray[k]? = some v := fun k v e => by
    have := congrArg (fun z => z[0]?) e
    simpa using this
  refine ⟨⟨l, A1, C1, L1, A2, C2, L2, A3, C3, L3⟩, ⟨by simpa using hl, hl1, hl2, fun i z hz => ?_, at1 256 _ e1, at1 257 _ e2, at1 258 _ e3⟩, ⟨w1, w2, w3⟩⟩
  have hi : i < 256 := by have := (List.getElem?_eq_some_iff.1 hz).1; rw [hl1] at this; exact this
  have := congrArg (fun y => y[i]?) hl3
  simp only [List.getElem?_take, hi, if_true, List.getElem?_map, hz, Option.map_some] at this
  simpa using this
end
end Go.Proofs.Yticfbbigljgjdaa
