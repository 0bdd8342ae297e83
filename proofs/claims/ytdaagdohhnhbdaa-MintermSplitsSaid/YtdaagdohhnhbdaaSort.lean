/- Spans sorted by the library, in this seat's words: a slice of the call's own holds them in the order of their lower ends. Condition: fewer than 2^40 spans, and a slice that is not nil. -/
import Derived.Test.YtdaagdohhnhbdaaShelf
import Derived.Test.YtdaagdohhnhbdaaSet
namespace Go.Proofs.Ytdaagdohhnhbdaa
open Go.RowKit Go.Sort Go.Lib
set_option linter.unusedVariables false

theorem isNaN64_any (x : Int) : Pure Try.prog 102 #[.int .i64 x] (.bool false) := by
  intro w
  go_enter Try.func102, Try.ntmps102
  go_wp2
  go_ret
  exact ⟨ret_bool (by simp), rfl⟩
theorem Compare64_any (x y : Int) : Pure Try.prog 80 #[.int .i64 x, .int .i64 y] (.int .i64 (cmpI x y)) := by
  intro w
  rcases Int.lt_trichotomy x y with h | h | h
  · have e : cmpI x y = -1 := by simp [cmpI, h]
    rw [e]
    go_enter Try.func80, Try.ntmps80
    go_wp2_with (go_at_call 102; refine ((isNaN64_any _).out _).mono ?_; rintro e w' ⟨rfl, rfl⟩)
    go_ret
    exact ⟨rfl, rfl⟩
  · have e : cmpI x y = 0 := by simp [cmpI, h]
    rw [e]
    subst h
    go_enter Try.func80, Try.ntmps80
    go_wp2_with (go_at_call 102; refine ((isNaN64_any _).out _).mono ?_; rintro e w' ⟨rfl, rfl⟩)
    go_ret
    exact ⟨rfl, rfl⟩
  · have e : cmpI x y = 1 := by simp [cmpI, h]; omega
    rw [e]
    have h2 : ¬ x < y := by omega
    go_enter Try.func80, Try.ntmps80
    go_wp2_with (go_at_call 102; refine ((isNaN64_any _).out _).mono ?_; rintro e w' ⟨rfl, rfl⟩)
    go_ret
    exact ⟨rfl, rfl⟩

def encSp (x : Sp) : List Value := [.int .i64 x.1, .int .i64 x.2]
theorem flat_sp (l : List Sp) : (flatK encSp 2 l.toArray).toList = spanCells l := by
  apply List.ext_getElem?
  intro t
  by_cases ht : t < l.length * 2
  · have h1 : l[t / 2]? = some (l[t / 2]'(by omega)) := List.getElem?_eq_getElem (by omega)
    obtain ⟨a, b⟩ := spanCells_at l _ _ h1
    have e : (flatK encSp 2 l.toArray).toList[t]? = some ((encSp (l[t / 2]'(by omega)))[t % 2]!) := by
      rw [Array.getElem?_toList, Array.getElem?_eq_getElem (by simpa using ht)]
      simp [flatK, show t / 2 < l.length by omega]
    rw [e]
    rcases Nat.mod_two_eq_zero_or_one t with m | m
    · have e2 : (spanCells l)[t]? = _ := (congrArg (fun k => (spanCells l)[k]?) (show t = t / 2 * 2 by omega)).trans a
      rw [e2]; simp [encSp, m]
    · have e2 : (spanCells l)[t]? = _ := (congrArg (fun k => (spanCells l)[k]?) (show t = t / 2 * 2 + 1 by omega)).trans b
      rw [e2]; simp [encSp, m]
  · rw [List.getElem?_eq_none (by simp; omega), List.getElem?_eq_none (by rw [spanCells_length]; omega)]

theorem closure_any (x y : Sp) (W : World) : Calls Try.prog 99 #[.agg #[.int .i64 x.1, .int .i64 x.2], .agg #[.int .i64 y.1, .int .i64 y.2]] W fun e w' => e = .returned (.int .i64 (cmpI x.1 y.1)) ∧ ∃ q os', w' = grow (W.drewN q) os' := by
  go_enter Try.func99, Try.ntmps99
  go_wp2_with (go_at_call 80; refine ((Compare64_any _ _).out _).mono ?_; rintro e w' ⟨rfl, rfl⟩)
  go_ret
  exact ⟨rfl, 0, _, by rw [alloc_eq_grow, alloc_eq_grow, grow_grow]; rfl⟩

theorem ltLo (x y : Sp) : Proofs.ltOf (fun x y : Sp => cmpI x.1 y.1) x y = decide (x.1 < y.1) := by
  unfold Proofs.ltOf cmpI
  by_cases h1 : x.1 < y.1
  · simp [h1]
  · by_cases h2 : y.1 < x.1 <;> simp [h1, h2]
theorem swoLo : SWO (Proofs.ltOf fun x y : Sp => cmpI x.1 y.1) where
  irrefl x := by rw [ltLo]; simp
  trans x y z h1 h2 := by rw [ltLo] at *; simp at *; omega
  ntrans x y z h1 h2 := by rw [ltLo] at *; simp at *; omega

theorem take_put (cur : Array Value) (l : List Sp) (h : l.length * 2 ≤ cur.size) : (putCells id 0 (flatK encSp 2 l.toArray) cur).toList.take (l.length * 2) = spanCells l := by
  rw [← flat_sp l]
  apply List.ext_getElem?
  intro j
  by_cases hj : j < l.length * 2
  · rw [List.getElem?_take_of_lt hj, Array.getElem?_toList, Array.getElem?_toList]
    have : j < (flatK encSp 2 l.toArray).size := by simpa using hj
    simp [putCells, hj, show j < cur.size by omega, getElem!_pos]
  · rw [List.getElem?_take_eq_none (by omega), List.getElem?_eq_none (by simp; omega)]

theorem grown_sorted {w : World} {g n : Nat} {os : Array Obj} (d : Array Sp) : w.grownBy (Proofs.sortWorldK encSp 2 w g 0 n d os) (some g) := by
  refine ⟨rfl, rfl, rfl, by simp [Proofs.sortWorldK, putRowK], fun k hk hne => ?_⟩
  unfold Proofs.sortWorldK
  rw [heap_grow_old _ _ (by simpa [putRowK] using hk)]
  have : g ≠ k := fun e => hne (by rw [e])
  simp [putRowK, putRow, mapBlock, Sort.ahead, Array.getElem?_modify, this]

theorem SortSpans_any (base g cap : Nat) (l : List Sp) (w : World) (h : w.ownsRow base 34 2 (.slice (some ⟨g, 0, none⟩) l.length cap) l.length (spanCells l)) (hn : l.length < 1099511627776) :
    Calls Try.prog 98 #[.slice (some ⟨g, 0, none⟩) l.length cap, .func (.func 99) #[] #[]] w fun e w' => e = .returned (.tuple #[]) ∧
      ∃ l' : List Sp, l'.length = l.length ∧ l'.Perm l ∧ l'.Pairwise (fun p q => p.1 ≤ q.1) ∧ w'.ownsRow base 34 2 (.slice (some ⟨g, 0, none⟩) l.length cap) l.length (spanCells l') ∧ w.grownBy w' (some g) := by
  have eg : ∀ args w, (callFunc 99 args).run Try.prog w = .ok (.enter 99 args) w := enters_of Try.func99 (by kernel_rfl) rfl
  have hsh : ∃ cur, base ≤ g ∧ w.heap[g]? = some (.cells cur 34 (0, 0)) ∧ l.length ≤ cap ∧ cap ≤ maxLen ∧ cur.size = cap * 2 ∧ cur.toList.take (l.length * 2) = spanCells l := by
    rcases h.2 with ⟨e0, _⟩ | ⟨g', cap', cur, e0, hb, hg, hn, hm, hs, ht⟩
    · cases e0
    · injection e0 with e1 _ e3
      injection e1 with e1
      injection e1 with e1
      subst e1; subst e3
      exact ⟨cur, hb, hg, hn, hm, hs, ht⟩
  obtain ⟨cur, hb, hg, hc, hm, hs, ht⟩ := hsh
  have hlt : g < w.heap.size := (Array.getElem?_eq_some_iff.1 hg).1
  have hH : HoldsK encSp 2 w g 0 l.toArray := by
    intro j hj
    have hj' : j < l.length * 2 := by simpa using hj
    refine ⟨?_, by simp [World.frozen?, hg]⟩
    have h1 : (cur.toList.take (l.length * 2))[j]? = (flatK encSp 2 l.toArray).toList[j]? := by rw [ht, flat_sp]
    rw [List.getElem?_take_of_lt hj', Array.getElem?_toList, Array.getElem?_toList, Array.getElem?_eq_getElem hj] at h1
    simp only [World.cell?, hg, Nat.zero_add]
    simp only [Option.isSome_none, Bool.false_eq_true, if_false]
    rw [h1, getElem!_pos _ j hj]
    rfl
  have hcon := Proofs.AnyQ.slices_SortFunc Try.sortSpan 2 Try.isAgg34 Try.sizeOf34 encSp (fun _ => rfl) (fun x v hv => by simp [encSp] at hv; rcases hv with rfl | rfl <;> rfl) (fun x y : Sp => cmpI x.1 y.1) swoLo 99 #[] g 0 cap l.toArray w eg
    (fun _ _ _ _ x y => closure_any x y _) hH hlt (by simp; omega)
  refine Calls.mono hcon ?_
  rintro e w' ⟨rfl, d', n, os, hp, hso, rfl⟩
  have hsz : d'.size = l.length := by simpa using hp.1
  refine ⟨rfl, d'.toList, by simpa using hsz, ?_, ?_, ?_, grown_sorted d'⟩
  · have := hp.2.2
    rw [show (l.toArray.extract 0 l.toArray.size).toList = l by simp] at this
    rw [show (d'.extract 0 l.toArray.size).toList = d'.toList by simp [← hsz]] at this
    exact this
  · rw [List.pairwise_iff_getElem]
    intro i j hi hj hij
    have := hso i j (by omega) hij (by simp at hj ⊢; omega)
    rw [ltLo, getElem!_pos d' i (by simpa using hi), getElem!_pos d' j (by simpa using hj)] at this
    simp at this ⊢
    exact this
  · refine ⟨by rw [spanCells_length]; simp [hsz], .inr ⟨g, cap, putCells id 0 (flatK encSp 2 d') cur, rfl, hb, ?_, hc, hm, ?_, ?_⟩⟩
    · unfold Proofs.sortWorldK
      rw [heap_grow_old _ _ (by simpa [putRowK] using hlt)]
      simp [putRowK, putRow, mapBlock, Sort.ahead, Array.getElem?_modify, hg, onCells]
    · simpa [putCells] using hs
    · have := take_put cur d'.toList (by simp [hsz]; omega)
      simpa [hsz] using this
end Go.Proofs.Ytdaagdohhnhbdaa
