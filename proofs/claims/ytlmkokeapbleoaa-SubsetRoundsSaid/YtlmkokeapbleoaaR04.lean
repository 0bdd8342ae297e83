/- Spans sorted by the library, in this seat's words: a slice of the call's own holds them in the order of their lower ends. Condition: fewer than 2^40 spans, and a slice that is not nil. Contract of span.Norm: the plain list of a set, in a row of the call's own. Condition: a list of fewer than 2^40 spans, whose numbers are ints. Contract of span.Meet: the plain list of what is in both of two sets, in a row of the call's own. Condition: lists of fewer than 2^38 spans, whose numbers are ints. Contracts of span.Minus and span.Count. Condition: lists of fewer than 2^37 spans, whose numbers are ints. Contract of umlautref01.Norm. Condition: lists of fewer than 2^20 spans, whose numbers are ints. Contracts of span.First, span.Last, span.At and of umlautref01.Nth, At, Count. Condition: lists of fewer than 2^20 spans (the document's) or 2^37 (the program's), whose numbers are ints. Appending a slice that reads as a list to a row of the call's own: nil and empty ones too; a step of a region that draws. No function of the program in sight. Condition: none. Contracts of span.Union, Within, Meets, Move and of umlautref01.Move. Condition: lists of fewer than 2^37 spans (2^20 for the document's), whose numbers are ints. The contracts of the set functions said of a walk's state: what is at hand, and what is known behind the call. Condition: the slices at hand are known (Lst), the document's are no longer than 65535. Slices of slices: their headers as cells, what each of them holds; a header more, a header in place. No function of the program in sight. Condition: none. Words for boxes and windows in memory; contract of box.In. Condition: the box and the window are known. Contract of umlautref03.Value. Condition: the numbers are ints. The values of parts said of a walk's state (the first part of Lift03, for seats that lack its other functions). Condition: none. Contract of umlautref04.Value: a term's value of a window, or that it has none. Condition: the term's numbers are right; the parts and the window are known. Plain law of cycles: a queue of the states without an edge that comes in goes through all states just if the document finds no way of n+1 edges. No program in sight. Condition: none. Words for descriptions in memory; what is right of a description, in plain words. No function of the program in sight. Condition: none. Contracts of word.Domain and desc.guards; Within and Meets said of members. Condition: the lists are known. -/
import Derived.Test.YtlmkokeapbleoaaShelf
import Derived.Test.YtlmkokeapbleoaaR01
import Derived.Lib.MinMax
import Derived.Test.YtlmkokeapbleoaaR02
import Derived.Deep.RegionHeld3
import Derived.Deep.AppendLies
set_option maxRecDepth 100000
set_option maxHeartbeats 64000000
set_option linter.unusedVariables false
set_option linter.unusedSimpArgs false
section
namespace Go.Proofs.Ytlmkokeapbleoaa
open Go.RowKit Go.Sort Go.Lib
theorem isNaN64_any (x : Int) : Pure Try.prog 50 #[.int .i64 x] (.bool false) := by
  intro w
  go_enter Try.func50, Try.ntmps50
  go_wp2
  go_ret
  exact ⟨ret_bool (by simp), rfl⟩
theorem Compare64_any (x y : Int) : Pure Try.prog 40 #[.int .i64 x, .int .i64 y] (.int .i64 (cmpI x y)) := by
  intro w
  rcases Int.lt_trichotomy x y with h | h | h
  · have e : cmpI x y = -1 := by simp [cmpI, h]
    rw [e]
    go_enter Try.func40, Try.ntmps40
    go_wp2_with (go_at_call 50; refine ((isNaN64_any _).out _).mono ?_; rintro e w' ⟨rfl, rfl⟩)
    go_ret
    exact ⟨rfl, rfl⟩
  · have e : cmpI x y = 0 := by simp [cmpI, h]
    rw [e]
    subst h
    go_enter Try.func40, Try.ntmps40
    go_wp2_with (go_at_call 50; refine ((isNaN64_any _).out _).mono ?_; rintro e w' ⟨rfl, rfl⟩)
    go_ret
    exact ⟨rfl, rfl⟩
  · have e : cmpI x y = 1 := by simp [cmpI, h]; omega
    rw [e]
    have h2 : ¬ x < y := by omega
    go_enter Try.func40, Try.ntmps40
    go_wp2_with (go_at_call 50; refine ((isNaN64_any _).out _).mono ?_; rintro e w' ⟨rfl, rfl⟩)
    go_ret
    exact ⟨rfl, rfl⟩
def encSp (x : Sp) : List Value := [.int .i64 x.1, .int .i64 x.2]
theorem flat_sp (l : List Sp) : (flatK encSp 2 l.toArray).toList = spanCells l := by
  apply List.ext_getElem?
  intro t
  by_cases ht : t < l.length * 2
  · have h1 : l[t / 2]? = some (l[t / 2]'(by omega)) := List.getElem?_eq_getElem (by omega)
    obtain ⟨a, b⟩ := spanCells_at l _ _ h1
    have e : (flatK encSp 2 l.toArray).toList[t]? = some ((encSp (l[t / 2]'(by omega)))[t % 2]!) := by
      rw [Array.getElem?_toList, Array.getElem?_eq_getElem (by simpa using ht)]
      simp [flatK, show t / 2 < l.length by omega]
    rw [e]
    rcases Nat.mod_two_eq_zero_or_one t with m | m
    · have e2 : (spanCells l)[t]? = _ := (congrArg (fun k => (spanCells l)[k]?) (show t = t / 2 * 2 by omega)).trans a
      rw [e2]; simp [encSp, m]
    · have e2 : (spanCells l)[t]? = _ := (congrArg (fun k => (spanCells l)[k]?) (show t = t / 2 * 2 + 1 by omega)).trans b
      rw [e2]; simp [encSp, m]
  · rw [List.getElem?_eq_none (by simp; omega), List.getElem?_eq_none (by rw [spanCells_length]; omega)]
theorem closure_any (x y : Sp) (W : World) : Calls Try.prog 39 #[.agg #[.int .i64 x.1, .int .i64 x.2], .agg #[.int .i64 y.1, .int .i64 y.2]] W fun e w' => e = .returned (.int .i64 (cmpI x.1 y.1)) ∧ ∃ q os', w' = grow (W.drewN q) os' := by
  go_enter Try.func39, Try.ntmps39
  go_wp2_with (go_at_call 40; refine ((Compare64_any _ _).out _).mono ?_; rintro e w' ⟨rfl, rfl⟩)
  go_ret
  exact ⟨rfl, 0, _, by rw [alloc_eq_grow, alloc_eq_grow, grow_grow]; rfl⟩
theorem ltLo (x y : Sp) : Proofs.ltOf (fun x y : Sp => cmpI x.1 y.1) x y = decide (x.1 < y.1) := by
  unfold Proofs.ltOf cmpI
  by_cases h1 : x.1 < y.1
  · simp [h1]
  · by_cases h2 : y.1 < x.1 <;> simp [h1, h2]
theorem swoLo : SWO (Proofs.ltOf fun x y : Sp => cmpI x.1 y.1) where
  irrefl x := by rw [ltLo]; simp
  trans x y z h1 h2 := by rw [ltLo] at *; simp at *; omega
  ntrans x y z h1 h2 := by rw [ltLo] at *; simp at *; omega
theorem take_put (cur : Array Value) (l : List Sp) (h : l.length * 2 ≤ cur.size) : (putCells id 0 (flatK encSp 2 l.toArray) cur).toList.take (l.length * 2) = spanCells l := by
  rw [← flat_sp l]
  apply List.ext_getElem?
  intro j
  by_cases hj : j < l.length * 2
  · rw [List.getElem?_take_of_lt hj, Array.getElem?_toList, Array.getElem?_toList]
    have : j < (flatK encSp 2 l.toArray).size := by simpa using hj
    simp [putCells, hj, show j < cur.size by omega, getElem!_pos]
  · rw [List.getElem?_take_eq_none (by omega), List.getElem?_eq_none (by simp; omega)]
theorem grown_sorted {w : World} {g n : Nat} {os : Array Obj} (d : Array Sp) : w.grownBy (Proofs.sortWorldK encSp 2 w g 0 n d os) (some g) := by
  refine ⟨rfl, rfl, rfl, by simp [Proofs.sortWorldK, putRowK], fun k hk hne => ?_⟩
  unfold Proofs.sortWorldK
  rw [heap_grow_old _ _ (by simpa [putRowK] using hk)]
  have : g ≠ k := fun e => hne (by rw [e])
  simp [putRowK, putRow, mapBlock, Sort.ahead, Array.getElem?_modify, this]
theorem SortSpans_any (base g cap : Nat) (l : List Sp) (w : World) (h : w.ownsRow base 35 2 (.slice (some ⟨g, 0, none⟩) l.length cap) l.length (spanCells l)) (hn : l.length < 1099511627776) :
    Calls Try.prog 38 #[.slice (some ⟨g, 0, none⟩) l.length cap, .func (.func 39) #[] #[]] w fun e w' => e = .returned (.tuple #[]) ∧
      ∃ l' : List Sp, l'.length = l.length ∧ l'.Perm l ∧ l'.Pairwise (fun p q => p.1 ≤ q.1) ∧ w'.ownsRow base 35 2 (.slice (some ⟨g, 0, none⟩) l.length cap) l.length (spanCells l') ∧ w.grownBy w' (some g) := by
  have eg : ∀ args w, (callFunc 39 args).run Try.prog w = .ok (.enter 39 args) w := enters_of Try.func39 (by kernel_rfl) rfl
  have hsh : ∃ cur, base ≤ g ∧ w.heap[g]? = some (.cells cur 35 (0, 0)) ∧ l.length ≤ cap ∧ cap ≤ maxLen ∧ cur.size = cap * 2 ∧ cur.toList.take (l.length * 2) = spanCells l := by
    rcases h.2 with ⟨e0, _⟩ | ⟨g', cap', cur, e0, hb, hg, hn, hm, hs, ht⟩
    · cases e0
    · injection e0 with e1 _ e3
      injection e1 with e1
      injection e1 with e1
      subst e1; subst e3
      exact ⟨cur, hb, hg, hn, hm, hs, ht⟩
  obtain ⟨cur, hb, hg, hc, hm, hs, ht⟩ := hsh
  have hlt : g < w.heap.size := (Array.getElem?_eq_some_iff.1 hg).1
  have hH : HoldsK encSp 2 w g 0 l.toArray := by
    intro j hj
    have hj' : j < l.length * 2 := by simpa using hj
    refine ⟨?_, by simp [World.frozen?, hg]⟩
    have h1 : (cur.toList.take (l.length * 2))[j]? = (flatK encSp 2 l.toArray).toList[j]? := by rw [ht, flat_sp]
    rw [List.getElem?_take_of_lt hj', Array.getElem?_toList, Array.getElem?_toList, Array.getElem?_eq_getElem hj] at h1
    simp only [World.cell?, hg, Nat.zero_add]
    simp only [Option.isSome_none, Bool.false_eq_true, if_false]
    rw [h1, getElem!_pos _ j hj]
    rfl
  have hcon := Proofs.AnyQ.slices_SortFunc Try.sortSpan 2 Try.isAgg35 Try.sizeOf35 encSp (fun _ => rfl) (fun x v hv => by simp [encSp] at hv; rcases hv with rfl | rfl <;> rfl) (fun x y : Sp => cmpI x.1 y.1) swoLo 39 #[] g 0 cap l.toArray w eg
    (fun _ _ _ _ x y => closure_any x y _) hH hlt (by simp; omega)
  refine Calls.mono hcon ?_
  rintro e w' ⟨rfl, d', n, os, hp, hso, rfl⟩
  have hsz : d'.size = l.length := by simpa using hp.1
  refine ⟨rfl, d'.toList, by simpa using hsz, ?_, ?_, ?_, grown_sorted d'⟩
  · have := hp.2.2
    rw [show (l.toArray.extract 0 l.toArray.size).toList = l by simp] at this
    rw [show (d'.extract 0 l.toArray.size).toList = d'.toList by simp [← hsz]] at this
    exact this
  · rw [List.pairwise_iff_getElem]
    intro i j hi hj hij
    have := hso i j (by omega) hij (by simp at hj ⊢; omega)
    rw [ltLo, getElem!_pos d' i (by simpa using hi), getElem!_pos d' j (by simpa using hj)] at this
    simp at this ⊢
    exact this
  · refine ⟨by rw [spanCells_length]; simp [hsz], .inr ⟨g, cap, putCells id 0 (flatK encSp 2 d') cur, rfl, hb, ?_, hc, hm, ?_, ?_⟩⟩
    · unfold Proofs.sortWorldK
      rw [heap_grow_old _ _ (by simpa [putRowK] using hlt)]
      simp [putRowK, putRow, mapBlock, Sort.ahead, Array.getElem?_modify, hg, onCells]
    · simpa [putCells] using hs
    · have := take_put cur d'.toList (by simp [hsz]; omega)
      simpa [hsz] using this
end Go.Proofs.Ytlmkokeapbleoaa
end
section
namespace Go.Proofs.Ytlmkokeapbleoaa
open Go.RowKit
def OwnRep (w : World) (base : Nat) (r : List Sp) (e : Ending) (w' : World) : Prop := ∃ v, e = .returned v ∧ v ≠ .slice none 0 0 ∧ w'.ownsRow base 35 2 v r.length (spanCells r) ∧ Below base w w'
theorem Norm_any (A : Option Addr) (n c : Nat) (l : List Sp) (w : World) (h : Spans w A n l) (hw : SpW l) (hn : n < 1099511627776) :
    Calls Try.prog 28 #[.slice A n c] w fun e w' => ∃ r, OwnRep w w.heap.size r e w' ∧ Rep r (Mem l) ∧ r.length ≤ n := by
  obtain ⟨i0, hi, hz0, hz1, hz2⟩ := info_parts info59
  obtain ⟨wm, hmk, hom, hgm⟩ := run_make_own (P := Try.prog) w w.heap.size 36 35 i0 _ 2 Try.underlying36 hi hz0 hz1 .i64 .i64 n (by rw [hz2]; omega) (by unfold maxLen; omega) (Nat.le_refl _)
  have hbm : Below w.heap.size w wm := (Below.refl _ _).grown hgm (Nat.le_refl _) (fun k hk => by cases hk)
  have HL := Lib.hid h.len
  have HA := Lib.hid h
  have HBM := Lib.hid hbm
  have HOM := Lib.hid hom
  clear h hbm hom hgm
  go_enter Try.func28, Try.ntmps28
  go_wp2_with fail
  go_loopw [3, 15] (fun v i wr => ∃ k : Nat, k ≤ n ∧ i = .int .i64 k ∧ wr.ownsRow w.heap.size 35 2 v (clips (l.take k)).length (spanCells (clips (l.take k))) ∧ Below w.heap.size w wr ∧ v ≠ .slice none 0 0) (fun _ i _ => n - (intOf i).toNat)
  case atStart => exact ⟨0, Nat.zero_le _, rfl, HOM.out, HBM.out, by simp⟩
  case round =>
  obtain ⟨k, hk, rfl, hown, hbel, hnn⟩ := hrel
  have HO := Lib.hid hown
  have HB := Lib.hid hbel
  have HNN := Lib.hid hnn
  clear hown hbel hnn
  by_cases hlt : k < n
  · obtain ⟨g, off, p, rfl, hp, hc1, hc2⟩ := HA.out.at_ hlt
    have hd1 := (HB.out.cell (lt_of_cell hc1)).trans hc1
    have hd2 := (HB.out.cell (lt_of_cell hc2)).trans hc2
    have HP := Lib.hid hp
    have hwp := hw p (List.mem_of_getElem? hp)
    obtain ⟨p1, p2⟩ := p
    clear hp hc1 hc2
    have hcl0 : Hid (clip (p1, p2) = (max p1 (-1073741824), min p2 1073741824)) := rfl
    obtain ⟨a, hma⟩ : ∃ a, max p1 (-1073741824) = a := ⟨_, rfl⟩
    obtain ⟨b, hmb⟩ : ∃ b, min p2 1073741824 = b := ⟨_, rfl⟩
    have hcl : Hid (clip (p1, p2) = (a, b)) := by unfold Hid; rw [hcl0.out, hma, hmb]
    clear hcl0
    obtain ⟨av, cv, hv⟩ := own_shape HO.out
    subst hv
    have hlc : Hid ((clips (l.take k)).length ≤ k) := by
      have := clips_length (l.take k)
      have h2 : (l.take k).length ≤ k := by simp; omega
      exact Nat.le_trans this h2
    by_cases hab : a ≤ b
    · go_wp2_with (at_builtin; go_must (refine wpList_push rfl _ _ 36 rfl w.heap.size 35 i0 _ 2 16 Try.underlying36 hi hz0 hz1 hz2 rfl (by decide) (HO.out.alloc (.cells #[.int .i64 a, .int .i64 b] 35)) rfl [.int .i64 a, .int .i64 b] _ (by first | rfl | (simp; rfl) | simp) rfl (one2 rfl rfl) (by have := hlc.out; omega) (by omega) (by have := HB.out.size; simp; omega) ?_); intro v' w2 hown2 hg2 hnil)
      refine ⟨⟨k + 1, by omega, by go_num, ?_, below_pushed (HB.out.alloc HB.out.size _) (HO.out.alloc _) (Nat.le_refl _) (by have := HB.out.size; simp; omega) hg2, ?_⟩, by simp [intOf]; omega⟩
      · have e : clips (l.take (k + 1)) = clips (l.take k) ++ [(a, b)] := by
          rw [take_snoc? HP.out, clips_append]
          simp only [clips, hcl.out]
          rw [if_pos hab]
        rw [e, spanCells_append, List.length_append]
        exact hown2
      · intro e
        have := (hnil.1 e).1
        exact HNN.out this
    · go_wp2_with fail
      refine ⟨⟨k + 1, by omega, by go_num, ?_, HB.out.alloc HB.out.size _, HNN.out⟩, by simp [intOf]; omega⟩
      have e : clips (l.take (k + 1)) = clips (l.take k) := by
        rw [take_snoc? HP.out, clips_append]
        simp only [clips, hcl.out]
        rw [if_neg hab, List.append_nil]
      rw [e]
      exact HO.out.alloc _
  · have hd : decide (k < n) = false := by simpa using hlt
    obtain rfl : k = n := by omega
    have et : l.take k = l := List.take_of_length_le (by rw [HL.out]; exact Nat.le_refl _)
    rw [et] at HO
    have hlc : Hid ((clips l).length ≤ k) := by have := clips_length l; rw [HL.out] at this; exact this
    clear et
    obtain ⟨av, cv, hv⟩ := own_shape HO.out
    subst hv
    obtain ⟨g, rfl, hbg⟩ : ∃ g, av = some ⟨g, 0, none⟩ ∧ w.heap.size ≤ g := by
      rcases HO.out.2 with ⟨e, _⟩ | ⟨g, cap, cur, e, hb, _⟩
      · exact absurd e HNN.out
      · injection e with e1
        exact ⟨g, e1, hb⟩
    have HS := Lib.hid (SortSpans_any w.heap.size g cv (clips l) wr HO.out (by have := hlc.out; omega))
    clear HO HNN
    go_wp2_with (go_at_call 38; refine HS.out.mono ?_; rintro e ws ⟨rfl, ls, hlen, hperm, hsort, hows, hgs⟩; have HLEN := Lib.hid hlen; have HPERM := Lib.hid hperm; have HSORT := Lib.hid hsort; have HOWS := Lib.hid hows; have HGS := Lib.hid hgs; clear hlen hperm hsort hows hgs)
    have HSRT : Hid (Srt ls) := Lib.hid ⟨HSORT.out, fun p hp => clips_mem (HPERM.out.mem_iff.1 hp)⟩
    clear HSORT
    generalize (clips l).length = N at *
    have HBS := Lib.hid ((HB.out).grown HGS.out HB.out.size (fun j hj => by cases hj; exact hbg))
    clear HB HGS HS
    go_loopw [6, 43] (fun v i wr => ∃ (i' : Nat) (o J : List Sp), i' ≤ N ∧ i = .int .i64 i' ∧ v = .slice (some ⟨g, 0, none⟩) o.length cv ∧ wr.ownsRow w.heap.size 35 2 (.slice (some ⟨g, 0, none⟩) N cv) N (spanCells (o ++ J ++ ls.drop i')) ∧ Hid (o.length + J.length = i') ∧ Below w.heap.size w wr ∧ Hid (NInv ls i' o)) (fun _ i _ => N - (intOf i).toNat)
    case atStart => exact ⟨0, [], [], Nat.zero_le _, rfl, rfl, by simpa using HOWS.out, Lib.hid (by simp), HBS.out, Lib.hid (NInv.start ls)⟩
    case round =>
    obtain ⟨i, o, J, hiN, rfl, rfl, hown, HJ, hbel, HI⟩ := hrel
    have HO := Lib.hid hown
    have HB := Lib.hid hbel
    clear hown hbel
    have hNk : N ≤ k := hlc.out
    by_cases hlt2 : i < N
    · obtain ⟨x, hx⟩ : ∃ x, ls[i]? = some x := ⟨_, List.getElem?_eq_getElem (by have := HLEN.out; omega)⟩
      have HX := Lib.hid hx
      obtain ⟨x1, x2⟩ := x
      have hcx := spanCells_at _ _ _ (row_at o J ls i _ hx HJ.out)
      have hd1 : wr.cell? ⟨g, i * 2, none⟩ = some (.int .i64 x1) := by rw [HO.out.cellAt _ (by omega)]; exact hcx.1
      have hd2 : wr.cell? ⟨g, i * 2 + 1, none⟩ = some (.int .i64 x2) := by rw [HO.out.cellAt _ (by omega)]; exact hcx.2
      have hg0 : g < wr.heap.size := lt_of_cell hd1
      have HOA := Lib.hid (HO.out.alloc (.cells #[.int .i64 x1, .int .i64 x2] 35))
      have HBA := Lib.hid (HB.out.alloc HB.out.size (.cells #[.int .i64 x1, .int .i64 x2] 35))
      have hoi : Hid (o.length ≤ i) := Lib.hid (by have := HJ.out; omega)
      clear hx hcx
      rcases snoc_cases o with rfl | ⟨m, q, rfl⟩
      · have HIN := Lib.hid (HI.out.push HSRT.out HX.out (fun m q e => by simp at e))
        go_wp2_with (first | go_quiet (fail) | (at_builtin; go_must (refine wpList_room rfl _ _ 36 rfl w.heap.size 35 i0 Try.underlying36 hi hz1 (ownsRow_drewN HOA.out _) (k := 0) (by omega) rfl (x1, x2) _ (by first | rfl | (simp; rfl) | simp) ?_); intro w2 hown2 hg2))
        have HO2 := Lib.hid hown2
        have HB2 := Lib.hid (((below_drewN HBA.out _).alloc (by have := HBA.out.size; simpa using this) _).grown hg2 (by have := HBA.out.size; simp at *; omega) (fun j hj => by cases hj; exact hbg))
        clear hown2 hg2
        go_wp2_with fail
        go_roundw
        case rel =>
          obtain ⟨J', e1, e2⟩ := room_push [] J ls i _ HX.out HJ.out
          refine ⟨i + 1, [] ++ [(x1, x2)], J', by omega, by go_num, by simp, ?_, Lib.hid e2, HB2.out, HIN.out⟩
          rw [← e1]
          exact HO2.out
        case measure => simp [intOf]; omega
      · have hqb := PlainF.last HI.out.plain
        have hqr : -1073741824 ≤ q.2 ∧ q.2 ≤ 1073741824 := by omega
        have hm1 : m.length + 1 ≤ i := by have := hoi.out; simpa using this
        obtain ⟨q1, q2⟩ := q
        simp only at hqr
        have hq := (spanCells_at _ _ _ (row_last m J ls (q1, q2) i)).2
        have hd3 : (wr.alloc (.cells #[.int .i64 x1, .int .i64 x2] 35)).cell? ⟨g, m.length * 2 + 1, none⟩ = some (.int .i64 q2) := by rw [HOA.out.cellAt _ (by omega)]; exact hq
        have HLEN1 : Hid ((m ++ [(q1, q2)]).length = m.length + 1) := by unfold Hid; simp
        have hxr := HSRT.out.2 _ (List.mem_of_getElem? HX.out)
        simp only at hxr
        rw [HLEN1.out]
        clear hqb hq
        by_cases hjn : x1 ≤ q2 + 1
        · obtain ⟨z, hz⟩ : ∃ z, max q2 x2 = z := ⟨_, rfl⟩
          have HIN := Lib.hid (HI.out.merge HSRT.out HX.out hjn)
          have hqf := HOA.out.frozenAt (m.length * 2 + 1)
          have HST := Lib.hid (HOA.out.stored (m.length * 2 + 1) (.int .i64 z)).1
          go_wp2_with (go_quiet (fail))
          go_region
          go_wp2_with fail
          go_roundw
          case rel =>
            obtain ⟨J', e1, e2⟩ := room_merge m J ls (q1, q2) i _ z HX.out HJ.out
            refine ⟨i + 1, m ++ [(q1, z)], J', by omega, by go_num, by simp, ?_, Lib.hid e2, (below_drewN HBA.out _).setCell hbg _, by rw [← hz]; exact HIN.out⟩
            rw [← e1]
            exact HST.out
          case measure => simp [intOf]; omega
        · have HIN := Lib.hid (HI.out.push HSRT.out HX.out (fun m' q' e => by
            have := List.append_inj_right' e rfl
            simp at this
            rw [← this]; simp only; omega))
          go_wp2_with (first | go_quiet (fail) | (at_builtin; go_must (refine wpList_room rfl _ _ 36 rfl w.heap.size 35 i0 Try.underlying36 hi hz1 (ownsRow_drewN HOA.out _) (k := m.length + 1) (by omega) rfl (x1, x2) _ (by first | rfl | (simp; rfl) | simp) ?_); intro w2 hown2 hg2))
          have HO2 := Lib.hid hown2
          have HB2 := Lib.hid (((below_drewN HBA.out _).alloc (by have := HBA.out.size; simpa using this) _).grown hg2 (by have := HBA.out.size; simp at *; omega) (fun j hj => by cases hj; exact hbg))
          clear hown2 hg2
          go_wp2_with fail
          go_roundw
          case rel =>
            obtain ⟨J', e1, e2⟩ := room_push (m ++ [(q1, q2)]) J ls i _ HX.out HJ.out
            refine ⟨i + 1, (m ++ [(q1, q2)]) ++ [(x1, x2)], J', by omega, by go_num, by simp, ?_, Lib.hid e2, HB2.out, HIN.out⟩
            rw [← e1, HLEN1.out]
            exact HO2.out
          case measure => simp [intOf]; omega
    · have hd : decide (i < N) = false := by simpa using hlt2
      obtain rfl : i = N := by omega
      go_wp2_with fail
      go_ret
      have e : i = ls.length := HLEN.out.symm
      refine ⟨o, ⟨_, rfl, by simp, own_cut HO.out (by have := HJ.out; omega) ?_, HB.out⟩, (e ▸ HI.out).rep HPERM.out, by have := HJ.out; have := hlc.out; omega⟩
      rw [List.append_assoc, List.take_left']
      rfl
end Go.Proofs.Ytlmkokeapbleoaa
end
section
namespace Go.Proofs.Ytlmkokeapbleoaa
open Go.RowKit
def OwnList (w : World) (base : Nat) (r : List Sp) (e : Ending) (w' : World) : Prop := ∃ v, e = .returned v ∧ w'.ownsRow base 35 2 v r.length (spanCells r) ∧ Below base w w'
theorem OwnRep.shape {w w' : World} {base : Nat} {r : List Sp} {e : Ending} (h : OwnRep w base r e w') : ∃ g cap, e = .returned (.slice (some ⟨g, 0, none⟩) r.length cap) ∧ base ≤ g ∧ r.length ≤ cap ∧ cap ≤ maxLen ∧ w'.ownsRow base 35 2 (.slice (some ⟨g, 0, none⟩) r.length cap) r.length (spanCells r) ∧ Below base w w' := by
  obtain ⟨v, rfl, hv, ho, hb⟩ := h
  rcases id ho.2 with ⟨e0, _⟩ | ⟨g, cap, cur, rfl, h1, h2, h3, h4, _⟩
  · exact absurd e0 hv
  · exact ⟨g, cap, rfl, h1, h3, h4, ho, hb⟩
theorem own_base {w : World} {base base' : Nat} {e : TypeId} {size : Nat} {v : Value} {n : Nat} {xs : List Value} (h : w.ownsRow base e size v n xs) (hb : base' ≤ base) : w.ownsRow base' e size v n xs := by
  refine ⟨h.1, ?_⟩
  rcases h.2 with h0 | ⟨g, cap, cur, rfl, h1, h2⟩
  · exact .inl h0
  · exact .inr ⟨g, cap, cur, rfl, by omega, h2⟩
theorem Meet_any (A B : Option Addr) (n c m d : Nat) (a b : List Sp) (w : World) (h : Spans w A n a) (h' : Spans w B m b) (hw : SpW a) (hw' : SpW b) (hn : n < 274877906944) (hm : m < 274877906944) :
    Calls Try.prog 41 #[.slice A n c, .slice B m d] w fun e w' => ∃ r, OwnList w w.heap.size r e w' ∧ Rep r (fun x => Mem a x ∧ Mem b x) ∧ r.length ≤ n + m := by
  obtain ⟨i0, hi, hz0, hz1, hz2⟩ := info_parts info59
  have HN := Lib.hid (Norm_any A n c a w h hw (by omega))
  have HB := Lib.hid h'
  go_enter Try.func41, Try.ntmps41
  go_wp2_with fail
  refine HN.out.mono ?_
  rintro e w1 ⟨r, ho, hr, hrl⟩
  obtain ⟨g1, c1, rfl, hg1, hc1, hm1, hrow1, hb1⟩ := ho.shape
  have HN2 := Lib.hid (Norm_any B m d b w1 (HB.out.below hb1) hw' (by omega))
  have HRow1 := Lib.hid hrow1
  have HB1 := Lib.hid hb1
  have HR := Lib.hid hr
  clear ho hrow1 hb1 hr HN h h'
  go_wp2_with fail
  refine HN2.out.mono ?_
  rintro e w2 ⟨s, ho, hs, hsl⟩
  obtain ⟨g2, c2, rfl, hg2, hc2, hm2, hrow2, hb2⟩ := ho.shape
  have HRow2 := Lib.hid hrow2
  have HB2 := Lib.hid hb2
  have HS := Lib.hid hs
  clear ho hrow2 hb2 hs HN2
  go_wp2_with fail
  go_loopw [0, 1, 5] (fun x y v wr => ∃ (i j p q : Nat) (o : List Sp), i ≤ r.length ∧ j ≤ s.length ∧ Hid ((i < r.length → p = i * 2) ∧ (j < s.length → q = j * 2)) ∧ x = .slice (some ⟨g1, p, none⟩) (r.length - i) (c1 - i) ∧ y = .slice (some ⟨g2, q, none⟩) (s.length - j) (c2 - j) ∧ wr.ownsRow w2.heap.size 35 2 v o.length (spanCells o) ∧ Below w2.heap.size w2 wr ∧ Hid (MtInv r s (r.drop i) (s.drop j) o) ∧ o.length ≤ i + j) (fun x y _ _ => match x, y with | .slice _ p _, .slice _ q _ => p + q | _, _ => 0)
  case atStart =>
    refine ⟨0, 0, 0, 0, [], Nat.zero_le _, Nat.zero_le _, Lib.hid (by simp), by simp, by simp, World.ownsRow_nil _ _ _ _, Below.refl _ _, Lib.hid ?_, by simp⟩
    simpa using MtInv.start HR.out.1 HS.out.1
  case round =>
  obtain ⟨i, j, p, q, o, hi1, hj1, HPQ, rfl, rfl, hown, hbel, HI, hol⟩ := hrel
  have HO := Lib.hid hown
  have HBE := Lib.hid hbel
  clear hown hbel
  obtain ⟨av, cv, hv⟩ := own_shape HO.out
  subst hv
  by_cases hir : i < r.length
  · by_cases hjs : j < s.length
    · obtain rfl : p = i * 2 := HPQ.out.1 hir
      obtain rfl : q = j * 2 := HPQ.out.2 hjs
      obtain ⟨x, hx⟩ : ∃ x, r[i]? = some x := ⟨_, List.getElem?_eq_getElem hir⟩
      obtain ⟨y, hy⟩ : ∃ y, s[j]? = some y := ⟨_, List.getElem?_eq_getElem hjs⟩
      have hcx := spanCells_at _ _ _ hx
      have hcy := spanCells_at _ _ _ hy
      obtain ⟨x1, x2⟩ := x
      obtain ⟨y1, y2⟩ := y
      have hlt1 : g1 < w2.heap.size := Nat.lt_of_lt_of_le (HRow1.out.lt g1 rfl).2 HB2.out.size
      have hlt2 : g2 < w2.heap.size := (HRow2.out.lt g2 rfl).2
      have HCE : Hid (∀ W, Below w2.heap.size w2 W → W.cell? ⟨g1, i * 2, none⟩ = some (.int .i64 x1) ∧ W.cell? ⟨g1, i * 2 + 1, none⟩ = some (.int .i64 x2) ∧ W.cell? ⟨g2, j * 2, none⟩ = some (.int .i64 y1) ∧ W.cell? ⟨g2, j * 2 + 1, none⟩ = some (.int .i64 y2)) := by
        intro W hW
        refine ⟨?_, ?_, ?_, ?_⟩
        · rw [hW.cell hlt1, HB2.out.cell (HRow1.out.lt g1 rfl).2, HRow1.out.cellAt _ (by omega)]; exact hcx.1
        · rw [hW.cell hlt1, HB2.out.cell (HRow1.out.lt g1 rfl).2, HRow1.out.cellAt _ (by omega)]; exact hcx.2
        · rw [hW.cell hlt2, HRow2.out.cellAt _ (by omega)]; exact hcy.1
        · rw [hW.cell hlt2, HRow2.out.cellAt _ (by omega)]; exact hcy.2
      obtain ⟨hd1, hd2, hd3, hd4⟩ := HCE.out wr HBE.out
      have HIL := Lib.hid (fun (g : x2 < y2) => MtInv.left (r := r) (s := s) (p := r.drop (i + 1)) (q := s.drop (j + 1)) (o := o) (x := (x1, x2)) (y := (y1, y2)) (by rw [← drop_cons? hx, ← drop_cons? hy]; exact HI.out) g)
      have HIR := Lib.hid (fun (g : ¬ x2 < y2) => MtInv.right (r := r) (s := s) (p := r.drop (i + 1)) (q := s.drop (j + 1)) (o := o) (x := (x1, x2)) (y := (y1, y2)) (by rw [← drop_cons? hx, ← drop_cons? hy]; exact HI.out) g)
      have HX := Lib.hid (drop_cons? hx)
      have HY := Lib.hid (drop_cons? hy)
      have hgw1 := Nat.lt_of_lt_of_le hlt1 HBE.out.size
      have hgw2 := Nat.lt_of_lt_of_le hlt2 HBE.out.size
      obtain ⟨lo, hlo⟩ : ∃ z, max x1 y1 = z := ⟨_, rfl⟩
      obtain ⟨hi', hhi⟩ : ∃ z, min x2 y2 = z := ⟨_, rfl⟩
      have hboth : Hid (both (x1, x2) (y1, y2) = if lo ≤ hi' then [(lo, hi')] else []) := by unfold Hid both; rw [hlo, hhi]
      have hk1 : 0 < r.length - i := by omega
      have hk2 : 0 < s.length - j := by omega
      clear hx hy hcx hcy
      have HBA := Lib.hid ((below_drewN HBE.out 1).alloc HBE.out.size (.cells #[.int .i64 lo, .int .i64 hi'] 35))
      have hol2 : o.length < 1099511627776 := by omega
      go_wp2_with fail
      go_region
      by_cases hlh : lo ≤ hi'
      · have e2 : Hid (both (x1, x2) (y1, y2) = [(lo, hi')]) := by unfold Hid; rw [hboth.out, if_pos hlh]
        by_cases hxy : x2 < y2
        · go_wp2_with (first | go_quiet (fail) | (at_builtin; go_must (refine wpList_push rfl _ _ 36 rfl w2.heap.size 35 i0 _ 2 16 Try.underlying36 hi hz0 hz1 hz2 rfl (by decide) ((ownsRow_drewN HO.out 1).alloc _) rfl [.int .i64 lo, .int .i64 hi'] _ (by first | rfl | (simp; rfl) | simp) rfl (one2 rfl rfl) (by omega) (by omega) (by have := HBE.out.size; simp; omega) ?_); intro v' w3 hown3 hg3 _))
          have HO3 := Lib.hid hown3
          have HB3 := Lib.hid (below_pushed HBA.out ((ownsRow_drewN HO.out 1).alloc _) (Nat.le_refl _) (by have := HBE.out.size; simp; omega) hg3)
          clear hown3 hg3
          obtain ⟨_, hf2, _, hf4⟩ := HCE.out w3 HB3.out
          go_wp2_with (go_quiet (fail))
          refine ⟨⟨i + 1, j, if c1 - i = 1 then i * 2 else i * 2 + 2, j * 2, o ++ [(lo, hi')], by omega, by omega, Lib.hid ⟨fun g => by rw [if_neg (by omega)]; omega, fun _ => rfl⟩, by split <;> simp <;> omega, rfl, by rw [spanCells_append, List.length_append]; exact HO3.out, below_drewN HB3.out _, Lib.hid ?_, by simp; omega⟩, by simp only []; omega⟩
          have := HIL.out hxy
          rw [e2.out] at this
          rw [HY.out]
          exact this
        · go_wp2_with (first | go_quiet (fail) | (at_builtin; go_must (refine wpList_push rfl _ _ 36 rfl w2.heap.size 35 i0 _ 2 16 Try.underlying36 hi hz0 hz1 hz2 rfl (by decide) ((ownsRow_drewN HO.out 1).alloc _) rfl [.int .i64 lo, .int .i64 hi'] _ (by first | rfl | (simp; rfl) | simp) rfl (one2 rfl rfl) (by omega) (by omega) (by have := HBE.out.size; simp; omega) ?_); intro v' w3 hown3 hg3 _))
          have HO3 := Lib.hid hown3
          have HB3 := Lib.hid (below_pushed HBA.out ((ownsRow_drewN HO.out 1).alloc _) (Nat.le_refl _) (by have := HBE.out.size; simp; omega) hg3)
          clear hown3 hg3
          obtain ⟨_, hf2, _, hf4⟩ := HCE.out w3 HB3.out
          go_wp2_with (go_quiet (fail))
          refine ⟨⟨i, j + 1, i * 2, if c2 - j = 1 then j * 2 else j * 2 + 2, o ++ [(lo, hi')], by omega, by omega, Lib.hid ⟨fun _ => rfl, fun g => by rw [if_neg (by omega)]; omega⟩, rfl, by split <;> simp <;> omega, by rw [spanCells_append, List.length_append]; exact HO3.out, below_drewN HB3.out _, Lib.hid ?_, by simp; omega⟩, by simp only []; omega⟩
          have := HIR.out (by omega)
          rw [e2.out] at this
          rw [HX.out]
          exact this
      · have e2 : Hid (both (x1, x2) (y1, y2) = []) := by unfold Hid; rw [hboth.out, if_neg hlh]
        by_cases hxy : x2 < y2
        · obtain ⟨_, hf2, _, hf4⟩ := HCE.out _ HBA.out
          go_wp2_with (go_quiet (fail))
          refine ⟨⟨i + 1, j, if c1 - i = 1 then i * 2 else i * 2 + 2, j * 2, o, by omega, by omega, Lib.hid ⟨fun g => by rw [if_neg (by omega)]; omega, fun _ => rfl⟩, by split <;> simp <;> omega, rfl, ((ownsRow_drewN HO.out 1).alloc _), below_drewN (HBE.out.alloc HBE.out.size _) _, Lib.hid ?_, by omega⟩, by simp only []; omega⟩
          have := HIL.out hxy
          rw [e2.out, List.append_nil] at this
          rw [HY.out]
          exact this
        · obtain ⟨_, hf2, _, hf4⟩ := HCE.out _ HBA.out
          go_wp2_with (go_quiet (fail))
          refine ⟨⟨i, j + 1, i * 2, if c2 - j = 1 then j * 2 else j * 2 + 2, o, by omega, by omega, Lib.hid ⟨fun _ => rfl, fun g => by rw [if_neg (by omega)]; omega⟩, rfl, by split <;> simp <;> omega, ((ownsRow_drewN HO.out 1).alloc _), below_drewN (HBE.out.alloc HBE.out.size _) _, Lib.hid ?_, by omega⟩, by simp only []; omega⟩
          have := HIR.out (by omega)
          rw [e2.out, List.append_nil] at this
          rw [HX.out]
          exact this
    · have hk1 : 0 < r.length - i := by omega
      have hk2 : decide (0 < s.length - j) = false := by simp; omega
      go_wp2_with fail
      go_ret
      exact ⟨o, ⟨_, rfl, own_base HO.out (by have := HB1.out.size; have := HB2.out.size; omega), below_to HB1.out (below_to HB2.out HBE.out)⟩, HI.out.rep (.inr (List.drop_eq_nil_of_le (by omega))) HR.out HS.out, by omega⟩
  · have hk1 : decide (0 < r.length - i) = false := by simp; omega
    go_wp2_with fail
    go_ret
    exact ⟨o, ⟨_, rfl, own_base HO.out (by have := HB1.out.size; have := HB2.out.size; omega), below_to HB1.out (below_to HB2.out HBE.out)⟩, HI.out.rep (.inl (List.drop_eq_nil_of_le (by omega))) HR.out HS.out, by omega⟩
end Go.Proofs.Ytlmkokeapbleoaa
end
section
namespace Go.Proofs.Ytlmkokeapbleoaa
open Go.RowKit
theorem PlainF.mem {a : Int} {l : List Sp} (h : PlainF a l) {p : Sp} (hp : p ∈ l) : a + 1 < p.1 ∧ p.1 ≤ p.2 ∧ p.2 ≤ 1073741824 := by
  induction l generalizing a with
  | nil => cases hp
  | cons q l ih =>
    obtain ⟨h1, h2, h3, h4⟩ := h
    rcases List.mem_cons.1 hp with rfl | hp
    · exact ⟨h1, h2, h3⟩
    · have := ih h4 hp; omega
theorem of_ownList {w w' : World} {base : Nat} {r : List Sp} {e : Ending} (h : OwnList w base r e w') : ∃ A c, e = .returned (.slice A r.length c) ∧ r.length ≤ c ∧ c ≤ maxLen ∧ Spans w' A r.length r ∧ Below base w w' := by
  obtain ⟨v, rfl, ho, hb⟩ := h
  rcases id ho with ⟨h1, ⟨rfl, h0⟩ | ⟨g, cap, cur, rfl, _, _, hn, hc, _⟩⟩
  · have e0 : r = [] := List.length_eq_zero_iff.1 h0
    subst e0
    exact ⟨none, 0, rfl, by simp, by simp, Sl.of_own ho, hb⟩
  · exact ⟨_, cap, rfl, hn, hc, Sl.of_own ho, hb⟩
theorem Minus_any (A B : Option Addr) (n c m d : Nat) (a b : List Sp) (w : World) (h : Spans w A n a) (h' : Spans w B m b) (hw : SpW a) (hw' : SpW b) (hn : n < 137438953472) (hm : m < 137438953472) :
    Calls Try.prog 42 #[.slice A n c, .slice B m d] w fun e w' => ∃ r, OwnList w w.heap.size r e w' ∧ Rep r (fun x => Mem a x ∧ ¬ Mem b x) ∧ r.length ≤ n + m + 1 := by
  obtain ⟨i0, hi, hz0, hz1, hz2⟩ := info_parts info59
  have HN := Lib.hid (Norm_any B m d b w h' hw' (by omega))
  have HA := Lib.hid h
  clear h h'
  go_enter Try.func42, Try.ntmps42
  go_wp2_with fail
  refine HN.out.mono ?_
  rintro e w1 ⟨r, ho, hr, hrl⟩
  obtain ⟨g1, c1, rfl, hg1, hc1, hm1, hrow1, hb1⟩ := ho.shape
  have HRow1 := Lib.hid hrow1
  have HB1 := Lib.hid hb1
  have HR := Lib.hid hr
  clear ho hrow1 hb1 hr HN
  go_wp2_with fail
  go_loopw [5, 6, 12] (fun v f i wr => ∃ (k : Nat) (f' : Int) (o : List Sp), k ≤ r.length ∧ i = .int .i64 k ∧ f = .int .i64 f' ∧ wr.ownsRow w1.heap.size 35 2 v o.length (spanCells o) ∧ Below w1.heap.size w1 wr ∧ Hid (NgInv r k f' o)) (fun _ _ i _ => r.length - (intOf i).toNat)
  case atStart => exact ⟨0, -1073741824, [], Nat.zero_le _, rfl, rfl, World.ownsRow_nil _ _ _ _, Below.refl _ _, NgInv.start HR.out.1⟩
  case round =>
  obtain ⟨k, f, o, hk, rfl, rfl, hown, hbel, HI⟩ := hrel
  have HO := Lib.hid hown
  have HBE := Lib.hid hbel
  clear hown hbel
  obtain ⟨av, cv, hv⟩ := own_shape HO.out
  subst hv
  have hlk := HI.out.len
  have hfb := HI.out.bound
  by_cases hlt : k < r.length
  · obtain ⟨x, hx⟩ : ∃ x, r[k]? = some x := ⟨_, List.getElem?_eq_getElem hlt⟩
    obtain ⟨x1, x2⟩ := x
    have hxb := HI.out.head hx
    have hx1 : -1073741824 ≤ x1 ∧ x1 ≤ x2 ∧ x2 ≤ 1073741824 := ⟨by have := hxb.1; simp only at this; omega, hxb.2.1, hxb.2.2.1⟩
    have hcx := spanCells_at _ _ _ hx
    have hlt1 : g1 < w1.heap.size := (HRow1.out.lt g1 rfl).2
    have hd1 : wr.cell? ⟨g1, k * 2, none⟩ = some (.int .i64 x1) := by rw [HBE.out.cell hlt1, HRow1.out.cellAt _ (by omega)]; exact hcx.1
    have hd2 : wr.cell? ⟨g1, k * 2 + 1, none⟩ = some (.int .i64 x2) := by rw [HBE.out.cell hlt1, HRow1.out.cellAt _ (by omega)]; exact hcx.2
    have HIN := Lib.hid (HI.out.step hx)
    clear hx hcx hxb
    go_wp2_with (
        at_builtin
        go_must (refine wpList_push rfl _ _ 36 rfl w1.heap.size 35 i0 _ 2 16 Try.underlying36 hi hz0 hz1 hz2 rfl (by decide) (HO.out.alloc (.cells #[.int .i64 x1, .int .i64 x2] 35)) rfl [.int .i64 f, .int .i64 (x1 - 1)] _ (by first | rfl | (simp; rfl) | simp) rfl (one2 rfl rfl) (by omega) (by omega) (by have := HBE.out.size; simp; omega) ?_)
        intro v' w2 hown2 hg2 _
        have HO2 := Lib.hid hown2
        have HB2 := Lib.hid (below_pushed (HBE.out.alloc HBE.out.size _) (HO.out.alloc _) (Nat.le_refl _) (by have := HBE.out.size; simp; omega) hg2)
        have hbx := World.cell?_of_block (w := wr.alloc (.cells #[.int .i64 x1, .int .i64 x2] 35)) (w' := w2) (a := ⟨wr.heap.size, 1, none⟩)
          ((hg2.block wr.heap.size (by simp; omega) (by
            intro e
            have := (HO.out.lt wr.heap.size (by simpa [Value.ownBlock] using e.symm)).2
            omega)).trans (by first | exact heap_alloc_old _ _ (by simp) | exact Go.heap_alloc_old _ _ _ (by simp)))
        have hd3 : w2.cell? ⟨wr.heap.size, 1, none⟩ = some (.int .i64 x2) := by
          have hnew := heap_alloc_new wr (.cells #[.int .i64 x1, .int .i64 x2] 35)
          rw [hbx]
          simp only [World.cell?, hnew]
          rfl
        clear hown2 hg2 hbx)
    refine ⟨⟨k + 1, x2 + 1, o ++ [(f, x1 - 1)], by omega, by go_num, rfl, by rw [spanCells_append, List.length_append]; exact HO2.out, HB2.out, HIN⟩, by simp [intOf]; omega⟩
  · have hd : decide (k < r.length) = false := by simpa using hlt
    obtain rfl : k = r.length := by omega
    have HDN := Lib.hid (HI.out.done HR.out)
    go_wp2_with (at_builtin; go_must (refine wpList_push (w0 := wr) rfl _ _ 36 rfl w1.heap.size 35 i0 _ 2 16 Try.underlying36 hi hz0 hz1 hz2 rfl (by decide) HO.out rfl [.int .i64 f, .int .i64 1073741824] _ (by first | rfl | (simp; rfl) | simp) rfl (one2 rfl rfl) (by omega) (by omega) (by have := HBE.out.size; simp; omega) ?_); intro v' w2 hown2 hg2 _)
    have hbw := below_pushed HBE.out HO.out (Nat.le_refl _) HBE.out.size hg2
    obtain ⟨av2, cv2, hv2⟩ := own_shape hown2
    subst hv2
    have hsp : Spans w2 av2 (o.length + 1) (o ++ [(f, 1073741824)]) := by
      have := Sl.of_own hown2
      unfold Spans
      rw [spanCells_append]
      exact this
    have HM := Lib.hid (Meet_any A av2 n c (o.length + 1) cv2 a (o ++ [(f, 1073741824)]) w2 (HA.out.below (below_to HB1.out hbw)) hsp hw HDN.out.2 (by omega) (by omega))
    have HBW := Lib.hid hbw
    clear hown2 hg2 hsp hbw
    go_wp2_with (go_at_call 41; refine HM.out.mono ?_; rintro e w3 ⟨r3, ⟨v3, rfl, ho3, hb3⟩, hr3, hl3⟩; have HO3 := Lib.hid ho3; have HB3 := Lib.hid hb3; have HR3 := Lib.hid hr3; clear ho3 hb3 hr3)
    go_ret
    refine ⟨r3, ⟨_, rfl, own_base HO3.out (by have := HB1.out.size; have := HBW.out.size; omega), below_to HB1.out (below_to HBW.out HB3.out)⟩, ?_, by omega⟩
    refine ⟨HR3.out.1, fun z => ?_⟩
    rw [HR3.out.2]
    show (Mem a z ∧ Mem (o ++ [(f, 1073741824)]) z) ↔ (Mem a z ∧ ¬ Mem b z)
    rw [HDN.out.1]
    exact ⟨fun g => ⟨g.1, g.2.2.2⟩, fun g => ⟨g.1, g.1.1, g.1.2.1, g.2⟩⟩
end Go.Proofs.Ytlmkokeapbleoaa
end
section
namespace Go.Proofs.Ytlmkokeapbleoaa
open Go.RowKit
theorem spans_lit1 (w : World) (p : Sp) (t : TypeId) : Spans (w.alloc (.cells #[.int .i64 p.1, .int .i64 p.2] t)) (some ⟨w.heap.size, 0, none⟩) 1 [p] := by
  refine ⟨by simp [spanCells], fun _ => ⟨_, 0, rfl, fun j u hu => ?_⟩⟩
  have hb := heap_alloc_new w (.cells #[.int .i64 p.1, .int .i64 p.2] t)
  simp only [World.cell?, hb]
  simpa [spanCells] using hu
end Go.Proofs.Ytlmkokeapbleoaa
end
section
namespace Go.Proofs.Ytlmkokeapbleoaa
open Go.RowKit
def optD (o : Option Int) : Int := match o with | some x => x | none => 0
def optB (o : Option Int) : Bool := match o with | some _ => true | none => false
theorem ret_pair {a b : Int} {c d : Bool} (h : a = b) (h' : c = d) : Ending.returned (.tuple #[.int .i64 a, .bool c]) = .returned (.tuple #[.int .i64 b, .bool d]) := by rw [h, h']
theorem First_any (A : Option Addr) (n c : Nat) (l r : List Sp) (w : World) (h : Spans w A n l) (hw : SpW l) (hn : n < 137438953472) (hr : Rep r (Mem l)) :
    Gives Try.prog 19 #[.slice A n c] w (.tuple #[.int .i64 (optD (nthS r 0)), .bool (optB (nthS r 0))]) := by
  have HN := Lib.hid (Norm_any A n c l w h hw (by omega))
  have HR := Lib.hid hr
  clear h hr
  unfold Gives
  go_enter Try.func19, Try.ntmps19
  go_wp2_with fail
  refine HN.out.mono ?_
  rintro e w1 ⟨r', ho, hr', hrl⟩
  obtain rfl : r' = r := Rep.unique hr' HR.out (fun _ => Iff.rfl)
  obtain ⟨g1, c1, rfl, hg1, hc1, hm1, hrow1, hb1⟩ := ho.shape
  have HRow1 := Lib.hid hrow1
  have HB1 := Lib.hid hb1
  clear ho hrow1 hb1 hr' HN
  rcases r' with _ | ⟨p, l'⟩
  · go_wp2_with fail
    go_ret2
    exact ⟨rfl, HB1.out⟩
  · have hf := Lib.hid (nthS_first HR.out.1)
    have hd : w1.cell? ⟨g1, 0, none⟩ = some (.int .i64 p.1) := by rw [HRow1.out.cellAt 0 (by simp)]; rfl
    have hlen : 0 < (p :: l').length := by simp
    have hz : (((p :: l').length : Int) == 0) = false := by simp; omega
    obtain ⟨N, hN⟩ : ∃ N, (p :: l').length = N := ⟨_, rfl⟩
    have HN := Lib.hid hN
    rw [hN] at hz hlen hc1 hrl ⊢
    clear hN
    go_wp2_with fail
    go_ret2
    exact ⟨ret_pair (by rw [hf.out]; rfl) (by rw [hf.out]; rfl), HB1.out⟩
theorem Last_any (A : Option Addr) (n c : Nat) (l r : List Sp) (w : World) (h : Spans w A n l) (hw : SpW l) (hn : n < 137438953472) (hr : Rep r (Mem l)) :
    Gives Try.prog 90 #[.slice A n c] w (.tuple #[.int .i64 (optD (nthS r (cnt r - 1))), .bool (optB (nthS r (cnt r - 1)))]) := by
  have HN := Lib.hid (Norm_any A n c l w h hw (by omega))
  have HR := Lib.hid hr
  clear h hr
  unfold Gives
  go_enter Try.func90, Try.ntmps90
  go_wp2_with fail
  refine HN.out.mono ?_
  rintro e w1 ⟨r', ho, hr', hrl⟩
  obtain rfl : r' = r := Rep.unique hr' HR.out (fun _ => Iff.rfl)
  obtain ⟨g1, c1, rfl, hg1, hc1, hm1, hrow1, hb1⟩ := ho.shape
  have HRow1 := Lib.hid hrow1
  have HB1 := Lib.hid hb1
  clear ho hrow1 hb1 hr' HN
  rcases last_cases r' with rfl | ⟨m, q, rfl⟩
  · go_wp2_with fail
    go_ret2
    exact ⟨rfl, HB1.out⟩
  · have hf := Lib.hid (nthS_last HR.out.1)
    have hd : w1.cell? ⟨g1, m.length * 2 + 1, none⟩ = some (.int .i64 q.2) := by rw [HRow1.out.cellAt _ (by simp; omega)]; exact (spanCells_at _ _ _ (by simp)).2
    have hle : (m ++ [q]).length = m.length + 1 := by simp
    rw [hle] at hrl hc1 ⊢
    obtain ⟨N, hN⟩ : ∃ N, m.length = N := ⟨_, rfl⟩
    rw [hN] at hrl hc1 hd ⊢
    clear hle hN
    go_wp2_with fail
    go_ret2
    exact ⟨ret_pair (by rw [hf.out]; rfl) (by rw [hf.out]; rfl), HB1.out⟩
end Go.Proofs.Ytlmkokeapbleoaa
end
section
namespace Go.Proofs.Ytlmkokeapbleoaa
open Go.RowKit
theorem run_append_of_nil {P : Program} (w : World) (base : Nat) (t ty e : TypeId) (i : TypeInfo) (size : Nat) (ht : P.underlying t = some (.slice e)) (hi : P.info? e = some i)
    (v : Value) (n : Nat) (xs : List Value) (hown : w.ownsRow base e size v n xs) (c : Nat) : (Builtin.append_ #[t, t] ty #[v, .slice none 0 c]).run P w = .ok v w := by
  rcases hown.2 with ⟨rfl, rfl⟩ | ⟨g, cap, cur, rfl, _, _, hnc, _⟩
  · simp [Builtin.append_, run_underlying ht, sizeOf, typeInfo, hi, Builtin.lenOf, Builtin.firstCells]
  · simp [Builtin.append_, run_underlying ht, sizeOf, typeInfo, hi, Builtin.lenOf, Builtin.firstCells, hnc, storeCells]
theorem add_plain (b off j : Nat) : (⟨b, off, none⟩ : Addr).add j = ⟨b, off + j, none⟩ := by unfold Addr.add; split <;> simp_all
theorem run_append_sl {P : Program} (w : World) (base : Nat) (t ty e : TypeId) (i : TypeInfo) (z : Value) (size bytes : Nat) (ht : P.underlying t = some (.slice e)) (hi : P.info? e = some i) (hz : i.zero = some z)
    (hsize : i.size = size) (hby : i.bytes = bytes) (hzs : z.cells.size = size) (hsz : 0 < size)
    (v : Value) (n : Nat) (xs : List Value) (hown : w.ownsRow base e size v n xs)
    (A : Option Addr) (m c : Nat) (news : List Value) (hr : Sl w size A m news) (h1 : ∀ u ∈ news, u.oneCell' = true)
    (h63 : n + m ≤ maxLen) (hbytes : (n + m) * bytes ≤ 140737488355328) (hbase : base ≤ w.heap.size) :
    ∃ v' w', (Builtin.append_ #[t, t] ty #[v, .slice A m c]).run P w = .ok v' w' ∧ w'.ownsRow base e size v' (n + m) (xs ++ news) ∧ w.grownBy w' v.ownBlock := by
  rcases A with _ | ad
  · have hm : m = 0 := by
      rcases Nat.eq_zero_or_pos m with h0 | h0
      · exact h0
      · obtain ⟨b, off, h, _⟩ := hr.2 h0
        cases h
    subst hm
    have hn : news = [] := List.eq_nil_of_length_eq_zero (by simpa using hr.1)
    subst hn
    exact ⟨v, w, run_append_of_nil w base t ty e i size ht hi v n xs hown c, by simpa using hown, World.grownBy.refl w _⟩
  · have hcells : ∀ j u, news[j]? = some u → w.cell? (ad.add j) = some u := by
      intro j u hu
      rcases Nat.eq_zero_or_pos m with h0 | h0
      · subst h0
        have hn : news = [] := List.eq_nil_of_length_eq_zero (by simpa using hr.1)
        subst hn
        simp at hu
      · obtain ⟨b, off, h, hc⟩ := hr.2 h0
        cases h
        rw [add_plain]
        exact hc j u hu
    obtain ⟨v', w', hrun, h2, h3, _⟩ := run_append_own_at (P := P) w base t ty e i z size bytes ht hi hz hsize hby hzs hsz v n xs hown ad m c news hr.1 hcells h1 h63 hbytes hbase
    exact ⟨v', w', hrun, h2, h3⟩
theorem wpList_append_sl {P : Program} (w : World) {ops : Array Oper} {rest : List Oper} {o : Oper} {a : Act} {Q : Exit → Act → World → Prop} (hgd : o.guard = none) (s x : Operand) (t : TypeId)
    (ho : o.op = .call { callee := .builtin .append, args := #[s, x], argTypes := #[t, t] })
    (base : Nat) (e : TypeId) (i : TypeInfo) (z : Value) (size bytes : Nat) (ht : P.underlying t = some (.slice e)) (hi : P.info? e = some i) (hz : i.zero = some z)
    (hsize : i.size = size) (hby : i.bytes = bytes) (hzs : z.cells.size = size) (hsz : 0 < size)
    {v : Value} {n : Nat} {xs : List Value} (hown : w.ownsRow base e size v n xs) (hs : a.eval s = v)
    {A : Option Addr} {m c : Nat} {news : List Value} (hr : Sl w size A m news) (hx : a.eval x = .slice A m c) (h1 : ∀ u ∈ news, u.oneCell' = true)
    (h63 : n + m ≤ maxLen) (hbytes : (n + m) * bytes ≤ 140737488355328) (hbase : base ≤ w.heap.size)
    (h : ∀ v' w', w'.ownsRow base e size v' (n + m) (xs ++ news) → w.grownBy w' v.ownBlock → wpList P ops Q rest (a.put o.dst v') w') : wpList P ops Q (o :: rest) a w := by
  refine wpList_plain hgd fun _ hK => ?_
  obtain ⟨v', w', hrun, h2, h3⟩ := run_append_sl (P := P) w base t o.type e i z size bytes ht hi hz hsize hby hzs hsz v n xs hown A m c news hr h1 h63 hbytes hbase
  unfold Oper.wp execOp
  simp only [ho, resolve, invoke, builtin, Sem.run_bind, Sem.run_pure, Result.andThen_ok, List.map_toArray, List.map_cons, List.map_nil, hs, hx, hrun]
  exact hK _ _ (h v' w' h2 h3)
end Go.Proofs.Ytlmkokeapbleoaa
end
section
namespace Go.Proofs.Ytlmkokeapbleoaa
open Go.RowKit
theorem Within_any (A B : Option Addr) (n c m d : Nat) (a b r : List Sp) (w : World) (h : Spans w A n a) (h' : Spans w B m b) (hw : SpW a) (hw' : SpW b) (hn : n < 137438953472) (hm : m < 137438953472) (hr : Rep r (fun x => Mem a x ∧ ¬ Mem b x)) :
    Gives Try.prog 46 #[.slice A n c, .slice B m d] w (.bool (decide (r = []))) := by
  have HM := Lib.hid (Minus_any A B n c m d a b w h h' hw hw' hn hm)
  have HR := Lib.hid hr
  clear h h' hr
  unfold Gives
  go_enter Try.func46, Try.ntmps46
  go_wp2_with fail
  refine HM.out.mono ?_
  rintro e w1 ⟨r', ho, hr', hl⟩
  obtain rfl : r' = r := Rep.unique hr' HR.out (fun _ => Iff.rfl)
  obtain ⟨A1, c1, rfl, hc1, hm1, hsp, hb⟩ := of_ownList ho
  have HB := Lib.hid hb
  clear ho hr' hsp hb
  rcases r' with _ | ⟨p, l⟩
  · go_wp2_with fail
    go_ret
    exact ⟨rfl, HB.out⟩
  · have hz : (((p :: l).length : Int) == 0) = false := by simp; omega
    generalize (p :: l).length = N at *
    go_wp2_with fail
    go_ret
    exact ⟨ret_bool (by simp), HB.out⟩
def shf (d : Int) (l : List Sp) : List Sp := l.map fun p => (p.1 + d, p.2 + d)
theorem shf_length (d : Int) (l : List Sp) : (shf d l).length = l.length := by simp [shf]
theorem shf_InS (d : Int) (l : List Sp) (x : Int) : InS (shf d l) x ↔ InS l (x - d) := by
  induction l with
  | nil => simp [shf, InS]
  | cons p l ih =>
    have e : shf d (p :: l) = (p.1 + d, p.2 + d) :: shf d l := rfl
    rw [e]
    simp only [InS, ih]
    constructor
    · rintro (h | h)
      · exact .inl ⟨by omega, by omega⟩
      · exact .inr h
    · rintro (h | h)
      · exact .inl ⟨by omega, by omega⟩
      · exact .inr h
theorem shf_rep {d : Int} {l s : List Sp} {S : Int → Prop} (hl : Rep l S) (hs : Rep s (Mem (shf d l))) : Rep s (fun x => -1073741824 ≤ x ∧ x ≤ 1073741824 ∧ S (x - d)) :=
  hs.congr fun x => by unfold Mem; rw [shf_InS, hl.2]
theorem shf_spw {d : Int} {l : List Sp} (hl : Plain l) (hd : -2147483648 ≤ d ∧ d ≤ 2147483648) : SpW (shf d l) := by
  intro p hp
  obtain ⟨q, hq, rfl⟩ := List.mem_map.1 hp
  have := PlainF.spw hl (Int.le_refl _) q hq
  simp only; omega
theorem shf_take (d : Int) (l : List Sp) (k : Nat) (p : Sp) (h : l[k]? = some p) : shf d (l.take (k + 1)) = shf d (l.take k) ++ [(p.1 + d, p.2 + d)] := by
  rw [take_snoc? h]; simp [shf]
theorem ownList_of_rep {w w' : World} {base : Nat} {r : List Sp} {e : Ending} (h : OwnRep w base r e w') : OwnList w base r e w' := by
  obtain ⟨v, he, _, ho, hb⟩ := h
  exact ⟨v, he, ho, hb⟩
theorem Move_any (A : Option Addr) (n c : Nat) (l : List Sp) (d : Int) (w : World) (h : Spans w A n l) (hw : SpW l) (hn : n < 137438953472) :
    Calls Try.prog 71 #[.slice A n c, .int .i64 d] w fun e w' => ∃ r, OwnList w w.heap.size r e w' ∧ Rep r (fun x => -1073741824 ≤ x ∧ x ≤ 1073741824 ∧ Mem l (x - d)) := by
  by_cases hd : d < -2147483648 ∨ 2147483648 < d
  · have hnil : Rep [] (fun x => -1073741824 ≤ x ∧ x ≤ 1073741824 ∧ Mem l (x - d)) := ⟨trivial, fun x => by
      simp only [InS, Mem, false_iff]; omega⟩
    have HNIL := Lib.hid hnil
    clear hnil
    rcases hd with hd | hd
    · go_enter Try.func71, Try.ntmps71
      go_wp2_with fail
      go_ret
      exact ⟨[], ⟨_, rfl, World.ownsRow_nil _ _ _ _, Below.refl _ _⟩, HNIL.out⟩
    · have hd2 : ¬ d < -2147483648 := by omega
      go_enter Try.func71, Try.ntmps71
      go_wp2_with fail
      go_ret
      exact ⟨[], ⟨_, rfl, World.ownsRow_nil _ _ _ _, Below.refl _ _⟩, HNIL.out⟩
  have hd1 : -2147483648 ≤ d := by omega
  have hd2 : d ≤ 2147483648 := by omega
  clear hd
  have HN := Lib.hid (Norm_any A n c l w h hw (by omega))
  clear h
  go_enter Try.func71, Try.ntmps71
  go_wp2_with fail
  refine HN.out.mono ?_
  rintro e w1 ⟨r, ho, hr, hrl⟩
  obtain ⟨g1, c1, rfl, hg1, hc1, hm1, hrow1, hb1⟩ := ho.shape
  have HRow1 := Lib.hid hrow1
  have HB1 := Lib.hid hb1
  have HR := Lib.hid hr
  clear ho hrow1 hb1 hr HN
  go_wp2_with fail
  go_loopw [17] (fun i wr => ∃ k : Nat, k ≤ r.length ∧ i = .int .i64 k ∧ wr.ownsRow w.heap.size 35 2 (.slice (some ⟨g1, 0, none⟩) r.length c1) r.length (spanCells (shf d (r.take k) ++ r.drop k)) ∧ Below w.heap.size w wr) (fun i _ => r.length - (intOf i).toNat)
  case atStart => exact ⟨0, Nat.zero_le _, rfl, by simpa [shf] using HRow1.out, HB1.out⟩
  case round =>
  obtain ⟨k, hk, rfl, hown, hbel⟩ := hrel
  have HO := Lib.hid hown
  have HB := Lib.hid hbel
  clear hown hbel
  by_cases hlt : k < r.length
  · obtain ⟨x, hx⟩ : ∃ x, r[k]? = some x := ⟨_, List.getElem?_eq_getElem hlt⟩
    have hxb := PlainF.spw HR.out.1 (Int.le_refl _) x (List.mem_of_getElem? hx)
    have hl1 : (shf d (r.take k)).length = k := by rw [shf_length, List.length_take]; omega
    have hat : (shf d (r.take k) ++ r.drop k)[k]? = some x := by
      rw [List.getElem?_append_right (by omega), hl1, Nat.sub_self, List.getElem?_drop, Nat.add_zero, hx]
    have hcx := spanCells_at _ _ _ hat
    have hset : Hid (((spanCells (shf d (r.take k) ++ r.drop k)).set (k * 2) (.int .i64 (x.1 + d))).set (k * 2 + 1) (.int .i64 (x.2 + d)) = spanCells (shf d (r.take (k + 1)) ++ r.drop (k + 1))) := by
      unfold Hid
      rw [shf_take d r k x hx, drop_cons? hx, List.append_assoc, spanCells_append, spanCells_append (shf d (r.take k))]
      have hl2 : (spanCells (shf d (r.take k))).length = k * 2 := by rw [spanCells_length, hl1]
      rw [List.set_append_right _ _ (by omega), List.set_append_right _ _ (by omega), hl2, Nat.sub_self, show k * 2 + 1 - k * 2 = 1 by omega]
      simp [spanCells]
    have hlt1 : g1 < wr.heap.size := (HO.out.lt g1 rfl).2
    have hd3 : wr.cell? ⟨g1, k * 2, none⟩ = some (.int .i64 x.1) := by rw [HO.out.cellAt _ (by omega)]; exact hcx.1
    have hd4 : wr.cell? ⟨g1, k * 2 + 1, none⟩ = some (.int .i64 x.2) := by rw [HO.out.cellAt _ (by omega)]; exact hcx.2
    have hf1 := HO.out.frozenAt (k * 2)
    have hf2 := HO.out.frozenAt (k * 2 + 1)
    have HST := Lib.hid ((HO.out.stored (k * 2) (.int .i64 (x.1 + d))).1.stored (k * 2 + 1) (.int .i64 (x.2 + d))).1
    obtain ⟨x1, x2⟩ := x
    simp only at hxb hd3 hd4 HST hset
    clear hcx hx hat
    go_wp2_with fail
    go_roundw
    case rel => exact ⟨k + 1, by omega, by go_num, hset.out ▸ HST.out, (HB.out.setCell hg1 _).setCell hg1 _⟩
    case measure => simp [intOf]; omega
  · have hdk : decide (k < r.length) = false := by simpa using hlt
    obtain rfl : k = r.length := by omega
    rw [List.take_length, List.drop_length, List.append_nil] at HO
    have hsp : Spans wr (some ⟨g1, 0, none⟩) r.length (shf d r) := Sl.of_own HO.out
    have HN := Lib.hid (Norm_any (some ⟨g1, 0, none⟩) r.length c1 (shf d r) wr hsp (shf_spw HR.out.1 ⟨hd1, hd2⟩) (by omega))
    clear hsp
    go_wp2_with fail
    refine HN.out.mono ?_
    rintro e w2 ⟨s, ⟨v, rfl, hv, ho, hb⟩, hs, hsl⟩
    have HO2 := Lib.hid (own_base ho HB.out.size)
    have HB2 := Lib.hid (below_to HB.out hb)
    have HS := Lib.hid hs
    obtain ⟨av2, cv2, rfl⟩ := own_shape ho
    clear ho hb hs hv
    go_wp2_with fail
    go_ret
    exact ⟨s, ⟨_, rfl, HO2.out, HB2.out⟩, shf_rep HR.out HS.out⟩
end Go.Proofs.Ytlmkokeapbleoaa
end
section
namespace Go.Proofs.Ytlmkokeapbleoaa
open Go.RowKit
def RetL (w0 : World) (r : List Sp) (F : World → Prop) (e : Ending) (w' : World) : Prop := ∃ A c, e = .returned (.slice A r.length c) ∧ Hid (St w0 w' (fun W => Lst A r W ∧ F W))
theorem retL_own {w0 w w' : World} {r : List Sp} {F : World → Prop} {e : Ending} (hK : Hid (St w0 w F)) (hp : Plain r) (ho : OwnList w w.heap.size r e w') : RetL w0 r F e w' := by
  obtain ⟨A1, c1, rfl, hc1, hm1, hsp, hb⟩ := of_ownList ho
  exact ⟨A1, c1, rfl, Lib.hid (hK.out.add hb (hp.lst hsp))⟩
theorem retL_new {w0 w w' : World} {r : List Sp} {F : World → Prop} {e : Ending} (hK : Hid (St w0 w F)) (hp : Plain r) (ho : NewSpans w r e w') : RetL w0 r F e w' := by
  obtain ⟨A1, n1, c1, rfl, hsp, hc, hm, hb⟩ := ho
  have := hsp.len
  subst this
  exact ⟨A1, c1, rfl, Lib.hid (hK.out.add hb (hp.lst hsp))⟩
section
variable {w0 w : World} {F : World → Prop} {A B : Option Addr} {a b r : List Sp}
theorem Norm_st (hK : Hid (St w0 w F)) (ha : ∀ W, F W → Lst A a W) (c : Nat) (hr : Hid (Rep r (Mem a))) : Calls Try.prog 28 #[.slice A a.length c] w (RetL w0 r F) := by
  have h1 := ha w hK.out.now
  refine (Norm_any A _ c a w h1.sp h1.wd (by have := h1.len; omega)).mono ?_
  rintro e w1 ⟨r', ho, hr', _⟩
  obtain rfl := Rep.unique hr' hr.out (fun _ => Iff.rfl)
  exact retL_own hK hr'.1 (ownList_of_rep ho)
theorem Meet_st (hK : Hid (St w0 w F)) (ha : ∀ W, F W → Lst A a W) (hb : ∀ W, F W → Lst B b W) (c d : Nat) (hr : Hid (Rep r (fun x => Mem a x ∧ Mem b x))) : Calls Try.prog 41 #[.slice A a.length c, .slice B b.length d] w (RetL w0 r F) := by
  have h1 := ha w hK.out.now
  have h2 := hb w hK.out.now
  refine (Meet_any A B _ c _ d a b w h1.sp h2.sp h1.wd h2.wd (by have := h1.len; omega) (by have := h2.len; omega)).mono ?_
  rintro e w1 ⟨r', ho, hr', _⟩
  obtain rfl := Rep.unique hr' hr.out (fun _ => Iff.rfl)
  exact retL_own hK hr'.1 ho
theorem Move_st (hK : Hid (St w0 w F)) (ha : ∀ W, F W → Lst A a W) (c : Nat) {d : Int} (hr : Hid (Rep r (fun x => -1073741824 ≤ x ∧ x ≤ 1073741824 ∧ Mem a (x - d)))) : Calls Try.prog 71 #[.slice A a.length c, .int .i64 d] w (RetL w0 r F) := by
  have h1 := ha w hK.out.now
  refine (Move_any A _ c a d w h1.sp h1.wd h1.len).mono ?_
  rintro e w1 ⟨r', ho, hr'⟩
  obtain rfl := Rep.unique hr' hr.out (fun _ => Iff.rfl)
  exact retL_own hK hr'.1 ho
theorem Has_st (hK : Hid (St w0 w F)) (ha : ∀ W, F W → Lst A a W) (c : Nat) (x : Int) {v : Bool} (hv : hasB a x = v) : Calls Try.prog 20 #[.slice A a.length c, .int .i64 x] w (RetV w0 (.bool v) F) := by
  have h1 := ha w hK.out.now
  subst hv
  exact retV_gives hK (Has_any A _ c a x w h1.sp (by have := h1.len; omega))
theorem Check_st (hK : Hid (St w0 w F)) (ha : ∀ W, F W → Lst A a W) (c : Nat) {v : Bool} (hv : plainB (-1073741826) a = v) : Calls Try.prog 45 #[.slice A a.length c] w (RetV w0 (.bool v) F) := by
  have h1 := ha w hK.out.now
  subst hv
  exact retV_gives hK (Check_any A _ c a w h1.sp (by have := h1.len; omega))
theorem Within_st (hK : Hid (St w0 w F)) (ha : ∀ W, F W → Lst A a W) (hb : ∀ W, F W → Lst B b W) (c d : Nat) (hr : Hid (Rep r (fun x => Mem a x ∧ ¬ Mem b x))) {v : Bool} (hv : decide (r = []) = v) : Calls Try.prog 46 #[.slice A a.length c, .slice B b.length d] w (RetV w0 (.bool v) F) := by
  have h1 := ha w hK.out.now
  have h2 := hb w hK.out.now
  subst hv
  exact retV_gives hK (Within_any A B _ c _ d a b r w h1.sp h2.sp h1.wd h2.wd h1.len h2.len hr.out)
theorem First_st (hK : Hid (St w0 w F)) (ha : ∀ W, F W → Lst A a W) (c : Nat) (hr : Hid (Rep r (Mem a))) {x : Int} {v : Bool} (hx : optD (nthS r 0) = x) (hv : optB (nthS r 0) = v) : Calls Try.prog 19 #[.slice A a.length c] w (RetV w0 (.tuple #[.int .i64 x, .bool v]) F) := by
  have h1 := ha w hK.out.now
  subst hx; subst hv
  exact retV_gives hK (First_any A _ c a r w h1.sp h1.wd h1.len hr.out)
theorem Last_st (hK : Hid (St w0 w F)) (ha : ∀ W, F W → Lst A a W) (c : Nat) (hr : Hid (Rep r (Mem a))) {x : Int} {v : Bool} (hx : optD (nthS r (cnt r - 1)) = x) (hv : optB (nthS r (cnt r - 1)) = v) : Calls Try.prog 90 #[.slice A a.length c] w (RetV w0 (.tuple #[.int .i64 x, .bool v]) F) := by
  have h1 := ha w hK.out.now
  subst hx; subst hv
  exact retV_gives hK (Last_any A _ c a r w h1.sp h1.wd h1.len hr.out)
end
theorem lst_lit {w : World} (p : Sp) (hp : SpW [p]) : ∀ W, Below (w.alloc (.cells #[.int .i64 p.1, .int .i64 p.2] 35)).heap.size (w.alloc (.cells #[.int .i64 p.1, .int .i64 p.2] 35)) W → Lst (some ⟨w.heap.size, 0, none⟩) [p] W :=
  fun W hW => ⟨(spans_lit1 w p _).below hW, hp, by simp⟩
theorem St.lit {w0 w : World} {F : World → Prop} (hK : Hid (St w0 w F)) (p : Sp) (hp : SpW [p]) : Hid (St w0 (w.alloc (.cells #[.int .i64 p.1, .int .i64 p.2] 35)) (fun W => Lst (some ⟨w.heap.size, 0, none⟩) [p] W ∧ F W)) :=
  Lib.hid (hK.out.add ((Below.refl _ _).alloc (Nat.le_refl _) _) (lst_lit p hp))
def RetLN (w0 w : World) (r : List Sp) (F : World → Prop) (e : Ending) (w' : World) : Prop := ∃ A c, e = .returned (.slice A r.length c) ∧ Hid (w'.ownsRow w.heap.size 35 2 (.slice A r.length c) r.length (spanCells r)) ∧ Hid (St w0 w' (fun W => Lst A r W ∧ F W)) ∧ Hid (Below w.heap.size w w')
theorem retLN_own {w0 w w' : World} {r : List Sp} {F : World → Prop} {e : Ending} (hK : Hid (St w0 w F)) (hp : Plain r) (ho : OwnList w w.heap.size r e w') : RetLN w0 w r F e w' := by
  obtain ⟨v, rfl, hown, hb⟩ := ho
  obtain ⟨A1, c1, rfl⟩ := own_shape hown
  exact ⟨A1, c1, rfl, Lib.hid hown, Lib.hid (hK.out.add hb (hp.lst (Sl.of_own hown))), Lib.hid hb⟩
theorem RetLN.later {w0 w w2 : World} {r : List Sp} {F : World → Prop} {e : Ending} {w' : World} (h : RetLN w0 w2 r F e w') (hb : Below w.heap.size w w2) : RetLN w0 w r F e w' := by
  obtain ⟨A, c, he, hO, hK, hB⟩ := h
  refine ⟨A, c, he, Lib.hid ?_, hK, Lib.hid (below_to hb hB.out)⟩
  refine ⟨hO.out.1, ?_⟩
  rcases hO.out.2 with h | ⟨g, cap, cur, h1, h2, h3⟩
  · exact .inl h
  · exact .inr ⟨g, cap, cur, h1, Nat.le_trans hb.size h2, h3⟩
theorem RetLN.fin {w0 w w2 : World} {r : List Sp} {F0 F G : World → Prop} {e : Ending} {w' : World} (hK : Hid (St w0 w F0)) (hb : Below w.heap.size w w2) (h : RetLN w w2 r F e w') (hG : ∀ W, F W → G W) : RetLN w0 w r G e w' := by
  obtain ⟨A, c, he, hO, hK1, hB⟩ := h.later hb
  exact ⟨A, c, he, hO, Lib.hid ⟨fun W hW => ⟨(hK1.out.1 W hW).1, hG _ (hK1.out.1 W hW).2⟩, below_to hK.out.2 hB.out⟩, hB⟩
theorem Norm_stN {w0 w : World} {F : World → Prop} {A : Option Addr} {a r : List Sp} (hK : Hid (St w0 w F)) (ha : ∀ W, F W → Lst A a W) (c : Nat) (hr : Hid (Rep r (Mem a))) : Calls Try.prog 28 #[.slice A a.length c] w (RetLN w0 w r F) := by
  have h1 := ha w hK.out.now
  refine (Norm_any A _ c a w h1.sp h1.wd (by have := h1.len; omega)).mono ?_
  rintro e w1 ⟨r', ho, hr', _⟩
  obtain rfl := Rep.unique hr' hr.out (fun _ => Iff.rfl)
  exact retLN_own hK hr'.1 (ownList_of_rep ho)
end Go.Proofs.Ytlmkokeapbleoaa
end
section
namespace Go.Proofs.Ytlmkokeapbleoaa
open Go.RowKit
abbrev Item (α : Type) := Option Addr × Nat × List α
def ival {α : Type} (i : Item α) : Value := .slice i.1 i.2.2.length i.2.1
def icells {α : Type} (L : List (Item α)) : List Value := L.map ival
def bodies {α : Type} (L : List (Item α)) : List (List α) := L.map fun i => i.2.2
theorem icells_length {α : Type} (L : List (Item α)) : (icells L).length = L.length := by simp [icells]
theorem icells_append {α : Type} (L M : List (Item α)) : icells (L ++ M) = icells L ++ icells M := by simp [icells]
theorem bodies_append {α : Type} (L M : List (Item α)) : bodies (L ++ M) = bodies L ++ bodies M := by simp [bodies]
theorem bodies_length {α : Type} (L : List (Item α)) : (bodies L).length = L.length := by simp [bodies]
theorem icells_at {α : Type} {L : List (Item α)} {j : Nat} {i : Item α} (h : L[j]? = some i) : (icells L)[j]? = some (.slice i.1 i.2.2.length i.2.1) := by
  unfold icells; rw [List.getElem?_map, h]; rfl
theorem icells_set {α : Type} (L : List (Item α)) (j : Nat) (i : Item α) : (icells L).set j (.slice i.1 i.2.2.length i.2.1) = icells (L.set j i) := by
  unfold icells; rw [List.map_set]; rfl
def Lasts {α : Type} (R : Option Addr → List α → World → Prop) : Prop := ∀ A l w w', R A l w → Below w.heap.size w w' → R A l w'
def AllIt {α : Type} (R : Option Addr → List α → World → Prop) (L : List (Item α)) (w : World) : Prop := ∀ i ∈ L, R i.1 i.2.2 w
structure Items {α : Type} (R : Option Addr → List α → World → Prop) (A : Option Addr) (n : Nat) (L : List (Item α)) (w : World) : Prop where
  sl : Sl w 1 A n (icells L)
  it : AllIt R L w
section
variable {α : Type} {R : Option Addr → List α → World → Prop} {A : Option Addr} {n : Nat} {L M : List (Item α)} {w w' : World}
theorem AllIt.below (h : AllIt R L w) (hR : Lasts R) (hb : Below w.heap.size w w') : AllIt R L w' := fun i hi => hR _ _ _ _ (h i hi) hb
theorem AllIt.append (h : AllIt R L w) (k : AllIt R M w) : AllIt R (L ++ M) w := fun i hi => (List.mem_append.1 hi).elim (h i) (k i)
theorem AllIt.one {i : Item α} (h : R i.1 i.2.2 w) : AllIt R [i] w := fun j hj => by simp at hj; subst hj; exact h
theorem AllIt.sub (h : AllIt R L w) (hs : ∀ i ∈ M, i ∈ L) : AllIt R M w := fun i hi => h i (hs i hi)
theorem AllIt.at_ (h : AllIt R L w) {j : Nat} {i : Item α} (hj : L[j]? = some i) : R i.1 i.2.2 w := h i (List.mem_of_getElem? hj)
theorem Items.len (h : Items R A n L w) : L.length = n := by have := h.sl.len; rw [icells_length] at this; omega
theorem Items.at_ (h : Items R A n L w) {j : Nat} (hj : j < n) : ∃ b off a c l, A = some ⟨b, off, none⟩ ∧ L[j]? = some (a, c, l) ∧ w.cell? ⟨b, off + j, none⟩ = some (.slice a l.length c) ∧ R a l w := by
  obtain ⟨b, off, hA, hc⟩ := h.sl.2 (by omega)
  have hl := h.len
  have hx : L[j]? = some (L[j]'(by omega)) := List.getElem?_eq_getElem (by omega)
  exact ⟨b, off, _, _, _, hA, hx, hc j _ (icells_at hx), h.it.at_ hx⟩
theorem Items.below (h : Items R A n L w) (hR : Lasts R) (hb : Below w.heap.size w w') : Items R A n L w' := ⟨Sl.below (B := 0) h.sl hb, h.it.below hR hb⟩
theorem Items.nil_ (R : Option Addr → List α → World → Prop) (w : World) (A : Option Addr) : Items R A 0 [] w := ⟨Sl.nil_ _ _ _, fun i hi => by cases hi⟩
theorem Items.take {k : Nat} (h : Items R A n L w) (hk : k ≤ n) : Items R A k (L.take k) w := by
  refine ⟨?_, h.it.sub fun i hi => List.mem_of_mem_take hi⟩
  have := Sl.take h.sl hk
  rwa [Nat.mul_one, icells, ← List.map_take] at this
end
end Go.Proofs.Ytlmkokeapbleoaa
end
section
namespace Go.Proofs.Ytlmkokeapbleoaa
open Go.RowKit
def LLx (A : Option Addr) (O : List (Item Sp)) (W : World) : Prop := Items Lst A O.length O W ∧ O.length ≤ 9223372036854775807
theorem Lst.lastsx : Lasts Lst := fun A l w w' h hb => h.below hb
theorem LLx.below {A : Option Addr} {O : List (Item Sp)} {w w' : World} (h : LLx A O w) (hb : Below w.heap.size w w') : LLx A O w' := ⟨Items.below h.1 Lst.lastsx hb, h.2⟩
theorem LLx.at_ {A : Option Addr} {L : List (Item Sp)} {W : World} (h : LLx A L W) {k : Nat} (hk : k < L.length) : ∃ gb off ba bc b, A = some ⟨gb, off, none⟩ ∧ L[k]? = some (ba, bc, b) ∧ (bodies L)[k]? = some b ∧ W.cell? ⟨gb, off + k, none⟩ = some (.slice ba b.length bc) ∧ Lst ba b W := by
  obtain ⟨gb, off, ba, bc, b, hA, hx, hc, hl⟩ := h.1.at_ hk
  exact ⟨gb, off, ba, bc, b, hA, hx, by unfold bodies; rw [List.getElem?_map, hx]; rfl, hc, hl⟩
def RuneW (x : Int) : Prop := -2147483648 ≤ x ∧ x ≤ 2147483647
def RunesAt (A : Option Addr) (l : List Int) (W : World) : Prop := RowsAt 1 (fun x => [Value.int .i32 x]) (fun x _ => RuneW x) A l W
theorem RunesAt.below {A : Option Addr} {l : List Int} {w w' : World} (h : RunesAt A l w) (hb : Below w.heap.size w w') : RunesAt A l w' := RowsAt.below h (fun _ _ _ h _ => h) hb
theorem RunesAt.at_ {A : Option Addr} {l : List Int} {W : World} (h : RunesAt A l W) {j : Nat} (hj : j < l.length) : ∃ b off x, A = some ⟨b, off, none⟩ ∧ l[j]? = some x ∧ RuneW x ∧ W.cell? ⟨b, off + j, none⟩ = some (.int .i32 x) := by
  obtain ⟨b, off, p, hA, hp, hc, hw⟩ := RowsAt.at_ h (fun _ => rfl) hj
  have := hc 0 _ rfl
  rw [Nat.mul_one, Nat.add_zero] at this
  exact ⟨b, off, p, hA, hp, hw, this⟩
def hitM : List (List Sp) → List Int → Prop
  | [], [] => True
  | s :: r, x :: xs => Mem s x ∧ hitM r xs
  | _, _ => False
theorem hitM_len {L : List (List Sp)} {xs : List Int} (h : hitM L xs) : L.length = xs.length := by
  induction L generalizing xs with
  | nil => cases xs with
    | nil => rfl
    | cons => cases h
  | cons s L ih => cases xs with
    | nil => cases h
    | cons x xs => simp [ih h.2]
theorem hitM_iff (L : List (List Sp)) (xs : List Int) : hitM L xs ↔ (L.length = xs.length ∧ ∀ (k : Nat) s x, L[k]? = some s → xs[k]? = some x → Mem s x) := by
  induction L generalizing xs with
  | nil =>
    cases xs with
    | nil => simp [hitM]
    | cons x xs => simp [hitM]
  | cons s L ih =>
    cases xs with
    | nil => simp [hitM]
    | cons x xs =>
      simp only [hitM, ih, List.length_cons, Nat.add_right_cancel_iff]
      constructor
      · rintro ⟨h1, h2, h3⟩
        refine ⟨h2, fun k s' x' hs hx => ?_⟩
        cases k with
        | zero => simp at hs hx; subst hs; subst hx; exact h1
        | succ k => exact h3 k s' x' (by simpa using hs) (by simpa using hx)
      · rintro ⟨h2, h3⟩
        exact ⟨h3 0 s x rfl rfl, h2, fun k s' x' hs hx => h3 (k + 1) s' x' (by simpa using hs) (by simpa using hx)⟩
section
variable {w0 w : World} {F : World → Prop}
end
end Go.Proofs.Ytlmkokeapbleoaa
end
section
namespace Go.Proofs.Ytlmkokeapbleoaa
open Go.RowKit
end Go.Proofs.Ytlmkokeapbleoaa
end
section
namespace Go.Proofs.Ytlmkokeapbleoaa
open Go.RowKit
def vOk (d t u x : Int) : Bool := bitsB d t u && decide (0 ≤ x) && decide (x ≤ 2097151)
def vNum (d t u x : Int) : Int := if vOk d t u x then pval d t u x else 0
theorem vTup (d t u x : Int) : (if bitsB d t u = true ∧ 0 ≤ x ∧ x ≤ 2097151 then Value.tuple #[.int .i64 (pval d t u x), .bool true] else .tuple #[.int .i64 0, .bool false]) = .tuple #[.int .i64 (vNum d t u x), .bool (vOk d t u x)] := by
  unfold vNum
  split
  · rename_i h
    have : vOk d t u x = true := by simp [vOk, h.1, h.2.1, h.2.2]
    rw [this]; simp
  · rename_i h
    have : vOk d t u x = false := by
      rw [← Bool.not_eq_true]
      intro e
      simp [vOk, and_assoc] at e
      exact h e
    rw [this]; simp
theorem vOk_iff (d t u x : Int) : vOk d t u x = true ↔ (bitsB d t u = true ∧ 0 ≤ x ∧ x ≤ 2097151) := by simp [vOk, and_assoc]
section
variable {w0 w : World} {F : World → Prop} {A B : Option Addr} {a0 b0 r : List Sp}
theorem Value_st (hK : Hid (St w0 w F)) (a d t u x : Int) {v : Int} {ok : Bool} (h : vNum d t u x = v) (h' : vOk d t u x = ok) : Calls Try.prog 92 #[.agg #[.int .i64 a, .int .i64 d, .int .i64 t, .int .i64 u], .int .i64 x] w (RetV w0 (.tuple #[.int .i64 v, .bool ok]) F) := by
  subst h; subst h'
  have := Value_any a d t u x w
  rw [vTup] at this
  exact retV_gives hK this
end
end Go.Proofs.Ytlmkokeapbleoaa
end
section
namespace Go.Proofs.Ytlmkokeapbleoaa
open Go.RowKit
def vP (p : PartL) (x : Int) : Int := vNum p.2.1 p.2.2.1 p.2.2.2 x
def innerTo (t : TermL) (w : List Int) (k : Nat) : Int := t.sum + ((t.parts.take k).map fun p => vP p (w.getD p.1.toNat 0)).sum
def innerT (t : TermL) (w : List Int) : Int := innerTo t w t.parts.length
def WinOk (w : List Int) : Prop := ∀ x ∈ w, 0 ≤ x ∧ x ≤ 1114111
def ValOk (t : TermL) (w : List Int) : Prop := WinOk w ∧ (∀ p ∈ t.parts, PartOk w.length p) ∧ 0 ≤ innerT t w ∧ innerT t w ≤ 1114111 ∧ vOk t.drop t.take t.up (innerT t w) = true
def valN (t : TermL) (w : List Int) : Int := t.base + vNum t.drop t.take t.up (innerT t w)
theorem vNum_bd (d t u x : Int) : 0 ≤ vNum d t u x ∧ vNum d t u x ≤ 67108864 := by
  unfold vNum
  split
  · rename_i h
    unfold vOk at h
    simp only [Bool.and_eq_true] at h
    exact pval_bd h.1.1 x
  · omega
theorem innerTo_bd {t : TermL} (h : SmallN t.sum) (w : List Int) (k : Nat) (hk : k ≤ 4) : -1114111 ≤ innerTo t w k ∧ innerTo t w k ≤ 269549567 := by
  have h2 : ∀ (L : List PartL), 0 ≤ (L.map fun p => vP p (w.getD p.1.toNat 0)).sum ∧ (L.map fun p => vP p (w.getD p.1.toNat 0)).sum ≤ L.length * 67108864 := by
    intro L
    induction L with
    | nil => simp
    | cons p L ih =>
      have := vNum_bd p.2.1 p.2.2.1 p.2.2.2 (w.getD p.1.toNat 0)
      simp only [List.map_cons, List.sum_cons, List.length_cons]
      unfold vP at ih ⊢
      omega
  have h3 := h2 (t.parts.take k)
  have h4 : (t.parts.take k).length ≤ 4 := by rw [List.length_take]; omega
  have h5 := h.1
  have h6 := h.2
  unfold innerTo
  omega
section
variable {w0 w : World} {F : World → Prop} {A : Option Addr} {l : List PartL}
end
end Go.Proofs.Ytlmkokeapbleoaa
end
section
namespace Go.Proofs.Ytlmkokeapbleoaa
namespace Kahn
abbrev Edge := Nat × Nat
def cnt (L : List Edge) (t : Nat) : Nat := L.countP (fun e => e.2 == t)
def outs (E : List Edge) (s : Nat) : List Edge := E.filter (fun e => e.1 == s)
def rounds (E : List Edge) : Nat → (Nat → Bool) → Bool
  | 0, _ => true
  | k+1, on =>
    if E.any (fun e => on e.1) then rounds E k (fun t => E.any (fun e => on e.1 && e.2 == t)) else false
def cyc (E : List Edge) (n : Nat) : Bool := rounds E (n+1) (fun _ => true)
structure KI (E : List Edge) (n : Nat) (W : List Nat) (X : List Edge) (D : Nat → Nat) : Prop where
  nod : W.Nodup
  lt : ∀ t ∈ W, t < n
  sum : ∀ t, t < n → D t + cnt X t = cnt E t
  zero : ∀ t, t < n → (t ∈ W ↔ D t = 0)
  le : ∀ e, X.count e ≤ E.count e
  src : ∀ e ∈ X, e.1 ∈ W
  ord : ∀ e ∈ E, e.2 ∈ W → e.1 ∈ W ∧ W.idxOf e.1 < W.idxOf e.2
theorem rest {X E : List Edge} (h : ∀ e, X.count e ≤ E.count e) : ∃ Y, E.Perm (X ++ Y) := by
  induction X generalizing E with
  | nil => exact ⟨E, .refl _⟩
  | cons x X ih =>
    have hx := h x
    have hm : x ∈ E := List.count_pos_iff.1 (by simp at hx; omega)
    have hp := List.perm_cons_erase hm
    obtain ⟨Y, hY⟩ := ih (E := E.erase x) (by
      intro e
      have h1 := h e
      rw [List.count_cons, hp.count_eq e, List.count_cons] at h1
      split at h1 <;> omega)
    exact ⟨Y, hp.trans (hY.cons x)⟩
theorem cnt_sub {X E : List Edge} (h : ∀ e, X.count e ≤ E.count e) {t : Nat} (hc : cnt X t = cnt E t) :
    ∀ e ∈ E, e.2 = t → e ∈ X := by
  obtain ⟨Y, hp⟩ := rest h
  intro e he het
  have h1 : cnt E t = cnt X t + cnt Y t := by
    simp only [cnt]; rw [hp.countP_eq, List.countP_append]
  have h2 : cnt Y t = 0 := by omega
  rcases List.mem_append.1 (hp.mem_iff.1 he) with hx | hy
  · exact hx
  · have := List.countP_eq_zero.1 h2 e hy
    simp [het] at this
theorem idxOf_new {W : List Nat} {a : Nat} (h : a ∉ W) : (W ++ [a]).idxOf a = W.length := by
  induction W with
  | nil => simp
  | cons b W ih =>
    have hb : b ≠ a := fun q => h (q ▸ List.mem_cons_self)
    rw [List.cons_append, List.idxOf_cons, ih (fun q => h (List.mem_cons_of_mem _ q)), beq_false_of_ne hb]
    rfl
theorem idxOf_old {W V : List Nat} {a : Nat} (h : a ∈ W) : (W ++ V).idxOf a = W.idxOf a := by
  induction W with
  | nil => simp at h
  | cons b W ih =>
    rw [List.cons_append, List.idxOf_cons, List.idxOf_cons]
    by_cases hb : b = a
    · simp [hb]
    · rw [ih ((List.mem_cons.1 h).resolve_left (fun q => hb q.symm))]
theorem cnt_le {X E : List Edge} (h : ∀ e, X.count e ≤ E.count e) (t : Nat) : cnt X t ≤ cnt E t :=
  let ⟨Y, hp⟩ := rest h
  by simp only [cnt]; rw [hp.countP_eq, List.countP_append]; omega
def upd (D : Nat → Nat) (t v : Nat) : Nat → Nat := fun x => if x = t then v else D x
theorem KI.start {E : List Edge} {n : Nat} :
    KI E n ((List.range n).filter (fun t => cnt E t == 0)) [] (cnt E) where
  nod := List.nodup_range.filter _
  lt := fun t ht => List.mem_range.1 (List.mem_filter.1 ht).1
  sum := fun t _ => by simp [cnt]
  zero := fun t ht => by simp [ht]
  le := fun e => by simp
  src := fun e he => absurd he (by simp)
  ord := fun e he ht => by
    have h0 : cnt E e.2 = 0 := by simpa using (List.mem_filter.1 ht).2
    have := List.countP_eq_zero.1 h0 e he
    simp at this
theorem KI.edge {E : List Edge} {n : Nat} {W : List Nat} {X : List Edge} {D : Nat → Nat} (h : KI E n W X D)
    {e : Edge} (he2 : e.2 < n) (hs : e.1 ∈ W) (hle : ∀ e', (X ++ [e]).count e' ≤ E.count e') :
    1 ≤ D e.2 ∧ KI E n (if D e.2 - 1 = 0 then W ++ [e.2] else W) (X ++ [e]) (upd D e.2 (D e.2 - 1)) := by
  have hc := cnt_le hle e.2
  have hcx : cnt (X ++ [e]) e.2 = cnt X e.2 + 1 := by simp [cnt, List.countP_append]
  have hsum := h.sum e.2 he2
  have hd : 1 ≤ D e.2 := by omega
  have hnw : e.2 ∉ W := fun hm => by have := (h.zero e.2 he2).1 hm; omega
  have hne : e.1 ≠ e.2 := fun hq => hnw (hq ▸ hs)
  refine ⟨hd, ?_⟩
  have sum' : ∀ t, t < n → upd D e.2 (D e.2 - 1) t + cnt (X ++ [e]) t = cnt E t := by
    intro t ht
    by_cases hq : t = e.2
    · subst hq; simp only [upd, if_true, hcx]; omega
    · have : cnt (X ++ [e]) t = cnt X t := by
        simp [cnt, List.countP_append, Ne.symm hq]
      simp only [upd, if_neg hq, this]; exact h.sum t ht
  by_cases hz : D e.2 - 1 = 0
  · rw [if_pos hz]
    refine ⟨?_, ?_, sum', ?_, hle, ?_, ?_⟩
    · exact List.nodup_append.2 ⟨h.nod, by simp, by
        intro a ha b hb; simp at hb; subst hb; exact fun hq => hnw (hq ▸ ha)⟩
    · intro t ht
      rcases List.mem_append.1 ht with ht | ht
      · exact h.lt t ht
      · simp at ht; exact ht ▸ he2
    · intro t ht
      by_cases hq : t = e.2
      · subst hq; simp [upd, hz]
      · simp only [upd, if_neg hq, List.mem_append, List.mem_singleton, hq, or_false]; exact h.zero t ht
    · intro e' he'
      rcases List.mem_append.1 he' with he' | he'
      · exact List.mem_append.2 (.inl (h.src e' he'))
      · simp at he'; subst he'; exact List.mem_append.2 (.inl hs)
    · intro e' he' ht
      rcases List.mem_append.1 ht with ht | ht
      · have := h.ord e' he' ht
        refine ⟨List.mem_append.2 (.inl this.1), ?_⟩
        rw [idxOf_old this.1, idxOf_old ht]; exact this.2
      · simp at ht
        have heq : cnt (X ++ [e]) e.2 = cnt E e.2 := by
          have := sum' e.2 he2; simp [upd, hz] at this; exact this
        have hin := cnt_sub hle heq e' he' ht
        have hw : e'.1 ∈ W := by
          rcases List.mem_append.1 hin with hin | hin
          · exact h.src e' hin
          · simp at hin; subst hin; exact hs
        refine ⟨List.mem_append.2 (.inl hw), ?_⟩
        rw [idxOf_old hw, ht, idxOf_new hnw]
        have := List.idxOf_lt_length_of_mem hw
        omega
  · rw [if_neg hz]
    refine ⟨h.nod, h.lt, sum', ?_, hle, ?_, h.ord⟩
    · intro t ht
      by_cases hq : t = e.2
      · subst hq; simp [upd, hz, hnw]
      · simp only [upd, if_neg hq]; exact h.zero t ht
    · intro e' he'
      rcases List.mem_append.1 he' with he' | he'
      · exact h.src e' he'
      · simp at he'; subst he'; exact hs
def Gone (E : List Edge) (W : List Nat) (d : Nat) (X : List Edge) : Prop :=
  ∀ e, X.count e = if e.1 ∈ W.take d then E.count e else 0
theorem Gone.start (E : List Edge) (W : List Nat) : Gone E W 0 [] := by intro e; simp
theorem Gone.le {E : List Edge} {W : List Nat} {d : Nat} {X : List Edge} (h : Gone E W d X) (hn : W.Nodup)
    {s : Nat} (hs : W[d]? = some s) {L : List Edge} (hL : L <+: outs E s) :
    ∀ e, (X ++ L).count e ≤ E.count e := by
  intro e
  rw [List.count_append, h e]
  have hsub := hL.sublist.count_le e
  have hnot : s ∉ W.take d := by
    intro hm
    obtain ⟨k, hk, hq⟩ := List.mem_iff_getElem.1 hm
    have hk' := hk
    simp at hk'
    have hdl : d < W.length := by
      rcases Nat.lt_or_ge d W.length with h | h
      · exact h
      · rw [List.getElem?_eq_none h] at hs; cases hs
    have h2 : W[d] = s := by rw [List.getElem?_eq_getElem hdl] at hs; simpa using hs
    rw [List.getElem_take] at hq
    have hk2 : k < W.length := by omega
    have := List.pairwise_iff_getElem.1 hn k d hk2 hdl (by omega)
    exact this (hq.trans h2.symm)
  by_cases he : e.1 = s
  · rw [if_neg (by rw [he]; exact hnot)]
    have : (outs E s).count e ≤ E.count e := List.filter_sublist.count_le e
    omega
  · have h0 : (outs E s).count e = 0 := by
      apply List.count_eq_zero.2
      intro hm; have := (List.mem_filter.1 hm).2; simp at this; exact he this
    split <;> omega
theorem Gone.next {E : List Edge} {W : List Nat} {d : Nat} {X : List Edge} (h : Gone E W d X) (hn : W.Nodup)
    {s : Nat} (hs : W[d]? = some s) (V : List Nat) : Gone E (W ++ V) (d+1) (X ++ outs E s) := by
  intro e
  have hdl : d < W.length := by
    rcases Nat.lt_or_ge d W.length with h | h
    · exact h
    · rw [List.getElem?_eq_none h] at hs; cases hs
  have h2 : W[d] = s := by rw [List.getElem?_eq_getElem hdl] at hs; simpa using hs
  have ht : (W ++ V).take (d+1) = W.take d ++ [s] := by
    rw [List.take_append_of_le_length (by omega), List.take_add_one, hs]; rfl
  rw [ht, List.count_append, h e]
  have hle := h.le hn hs (List.prefix_refl (outs E s)) e
  rw [List.count_append, h e] at hle
  by_cases he : e.1 = s
  · have hin : e.1 ∈ W.take d ++ [s] := by simp [he]
    have hout : (outs E s).count e = E.count e := by
      simp only [outs]; rw [List.count_filter]; simp [he]
    rw [if_pos hin, hout]; rw [hout] at hle
    split
    · rename_i hm
      rw [if_pos hm] at hle
      omega
    · omega
  · have h0 : (outs E s).count e = 0 := by
      apply List.count_eq_zero.2
      intro hm; have := (List.mem_filter.1 hm).2; simp at this; exact he this
    have hiff : e.1 ∈ W.take d ++ [s] ↔ e.1 ∈ W.take d := by simp [he]
    rw [h0]; simp only [hiff, Nat.add_zero]
theorem few {W : List Nat} {n : Nat} (hn : W.Nodup) (hlt : ∀ t ∈ W, t < n) : W.length ≤ n := by
  have := hn.length_le_of_subset (l₂ := List.range n) (fun t ht => List.mem_range.2 (hlt t ht))
  simpa using this
theorem full {W : List Nat} {n : Nat} (hn : W.Nodup) (hlt : ∀ t ∈ W, t < n) (hl : n ≤ W.length) : ∀ t, t < n → t ∈ W := by
  intro t ht
  apply Classical.byContradiction
  intro hw
  have := few (W := t :: W) (n := n) (List.nodup_cons.2 ⟨hw, hn⟩) (by
    intro u hu
    rcases List.mem_cons.1 hu with hu | hu
    · exact hu ▸ ht
    · exact hlt u hu)
  simp at this; omega
theorem rounds_none {E : List Edge} {W : List Nat} (hall : ∀ e ∈ E, e.1 ∈ W ∧ W.idxOf e.1 < W.idxOf e.2 ∧ W.idxOf e.2 < W.length) :
    ∀ k j (on : Nat → Bool), (∀ t, on t = true → t ∈ W → j ≤ W.idxOf t) → W.length ≤ j + k → rounds E (k+1) on = false := by
  intro k
  induction k with
  | zero =>
    intro j on hon hk
    unfold rounds
    rw [if_neg]
    intro hany
    obtain ⟨e, he, h1⟩ := List.any_eq_true.1 hany
    have := hall e he
    have := hon e.1 h1 this.1
    omega
  | succ k ih =>
    intro j on hon hk
    unfold rounds
    split
    · apply ih (j+1) _ _ (by omega)
      intro t ht htw
      obtain ⟨e, he, h1⟩ := List.any_eq_true.1 ht
      simp at h1
      have h2 := hall e he
      have h3 := hon e.1 h1.1 h2.1
      rw [← h1.2]; omega
    · rfl
theorem rounds_some {E : List Edge} (S : Nat → Prop) (hne : ∃ t, S t)
    (hpre : ∀ t, S t → ∃ e ∈ E, e.2 = t ∧ S e.1) :
    ∀ k (on : Nat → Bool), (∀ t, S t → on t = true) → rounds E k on = true := by
  intro k
  induction k with
  | zero => intro on _; rfl
  | succ k ih =>
    intro on hon
    unfold rounds
    obtain ⟨t, ht⟩ := hne
    obtain ⟨e, he, _, hs⟩ := hpre t ht
    rw [if_pos (List.any_eq_true.2 ⟨e, he, hon _ hs⟩)]
    apply ih
    intro u hu
    obtain ⟨e, he, hq, hs⟩ := hpre u hu
    exact List.any_eq_true.2 ⟨e, he, by simp [hon _ hs, hq]⟩
theorem KI.fin {E : List Edge} {n : Nat} {W : List Nat} {X : List Edge} {D : Nat → Nat} (h : KI E n W X D)
    (hE : ∀ e ∈ E, e.1 < n ∧ e.2 < n) (hg : Gone E W W.length X) : decide (W.length < n) = cyc E n := by
  by_cases hl : W.length < n
  · rw [decide_eq_true hl]
    symm
    apply rounds_some (S := fun t => t < n ∧ t ∉ W)
    · apply Classical.byContradiction
      intro hno
      have hall : ∀ t, t < n → t ∈ W := fun t ht => Classical.byContradiction fun hq => hno ⟨t, ht, hq⟩
      have := (List.nodup_range (n := n)).length_le_of_subset (fun t ht => hall t (List.mem_range.1 ht))
      simp at this; omega
    · rintro t ⟨ht, htw⟩
      have hd : D t ≠ 0 := fun hq => htw ((h.zero t ht).2 hq)
      have hsum := h.sum t ht
      apply Classical.byContradiction
      intro hno
      have hin : ∀ e ∈ E, e.2 = t → e.1 ∈ W := fun e he hq =>
        Classical.byContradiction fun hw => hno ⟨e, he, hq, (hE e he).1, hw⟩
      have hfil : ∀ e : Edge, (X.filter (fun e => e.2 == t)).count e = (E.filter (fun e => e.2 == t)).count e := by
        intro e
        rcases Nat.eq_zero_or_pos ((E.filter (fun e => e.2 == t)).count e) with h0 | hp
        · rw [h0]
          rcases Nat.eq_zero_or_pos ((X.filter (fun e => e.2 == t)).count e) with h1 | h1
          · exact h1
          · have hm := List.mem_filter.1 (List.count_pos_iff.1 h1)
            have he := List.count_pos_iff.1 (Nat.lt_of_lt_of_le (List.count_pos_iff.2 hm.1) (h.le e))
            have := List.count_eq_zero.1 h0
            exact absurd (List.mem_filter.2 ⟨he, hm.2⟩) this
        · have hm := List.mem_filter.1 (List.count_pos_iff.1 hp)
          rw [List.count_filter (p := fun e : Edge => e.2 == t) hm.2, List.count_filter (p := fun e : Edge => e.2 == t) hm.2, hg e, List.take_length, if_pos (hin e hm.1 (by simpa using hm.2))]
      have hperm := (List.perm_iff_count.2 hfil).length_eq
      simp only [cnt, List.countP_eq_length_filter] at hsum
      omega
    · intros; rfl
  · rw [decide_eq_false hl]
    symm
    have hall := full h.nod h.lt (by omega)
    have hlen := few h.nod h.lt
    refine rounds_none (W := W) ?_ n 0 _ (fun _ _ _ => Nat.zero_le _) (by omega)
    intro e he
    have h1 := hall e.2 (hE e he).2
    have h2 := h.ord e he h1
    exact ⟨h2.1, h2.2, List.idxOf_lt_length_of_mem h1⟩
end Kahn
end Go.Proofs.Ytlmkokeapbleoaa
end
section
namespace Go.Proofs.Ytlmkokeapbleoaa
open Go.RowKit
structure RuleL where
  fr : Int
  dst : Int
  gs : List (List Sp)
  eat : Int
  out : List TermL
structure FinL where
  fr : Int
  gs : List (List Sp)
  out : List TermL
structure DescL where
  i : Int
  o : Int
  n : Int
  s : Int
  rules : List RuleL
  fins : List FinL
def LLr (R : Option Addr → List Sp → World → Prop) (A : Option Addr) (O : List (Item Sp)) (W : World) : Prop := Items R A O.length O W ∧ O.length ≤ 9223372036854775807
theorem LLr.below {R : Option Addr → List Sp → World → Prop} (hR : Lasts R) {A : Option Addr} {O : List (Item Sp)} {w w' : World} (h : LLr R A O w) (hb : Below w.heap.size w w') : LLr R A O w' := ⟨Items.below h.1 hR hb, h.2⟩
theorem LLr.at_ {R : Option Addr → List Sp → World → Prop} {A : Option Addr} {L : List (Item Sp)} {W : World} (h : LLr R A L W) {k : Nat} (hk : k < L.length) : ∃ gb off ba bc b, A = some ⟨gb, off, none⟩ ∧ L[k]? = some (ba, bc, b) ∧ (bodies L)[k]? = some b ∧ W.cell? ⟨gb, off + k, none⟩ = some (.slice ba b.length bc) ∧ R ba b W := by
  obtain ⟨gb, off, ba, bc, b, hA, hx, hc, hl⟩ := h.1.at_ hk
  exact ⟨gb, off, ba, bc, b, hA, hx, by unfold bodies; rw [List.getElem?_map, hx]; rfl, hc, hl⟩
theorem LLr.llx {A : Option Addr} {O : List (Item Sp)} {W : World} (h : LLr Lst A O W) : LLx A O W := h
structure RuleI where
  fr : Int
  dst : Int
  ga : Option Addr
  gc : Nat
  gs : List (Item Sp)
  e : Int
  o : OutI
def RuleI.L (r : RuleI) : RuleL := ⟨r.fr, r.dst, bodies r.gs, r.e, r.o.L⟩
def ruleC (r : RuleI) : List Value := [.int .i64 r.fr, .int .i64 r.dst, .slice r.ga r.gs.length r.gc, .int .i64 r.e, .slice r.o.a r.o.l.length r.o.c]
def RuleR (R : Option Addr → List Sp → World → Prop) (r : RuleI) (W : World) : Prop := (I64 r.fr ∧ I64 r.dst ∧ I64 r.e) ∧ LLr R r.ga r.gs W ∧ OutW r.o W
structure FinI where
  fr : Int
  ga : Option Addr
  gc : Nat
  gs : List (Item Sp)
  o : OutI
def FinI.L (r : FinI) : FinL := ⟨r.fr, bodies r.gs, r.o.L⟩
def finC (r : FinI) : List Value := [.int .i64 r.fr, .slice r.ga r.gs.length r.gc, .slice r.o.a r.o.l.length r.o.c]
def FinR (R : Option Addr → List Sp → World → Prop) (r : FinI) (W : World) : Prop := I64 r.fr ∧ LLr R r.ga r.gs W ∧ OutW r.o W
def RulesAt (R : Option Addr → List Sp → World → Prop) (A : Option Addr) (l : List RuleI) (W : World) : Prop := RowsAt 5 ruleC (RuleR R) A l W
def FinsAt (R : Option Addr → List Sp → World → Prop) (A : Option Addr) (l : List FinI) (W : World) : Prop := RowsAt 3 finC (FinR R) A l W
structure DescI where
  i : Int
  o : Int
  n : Int
  s : Int
  ra : Option Addr
  rc : Nat
  rs : List RuleI
  fa : Option Addr
  fc : Nat
  fs : List FinI
def DescI.L (d : DescI) : DescL := ⟨d.i, d.o, d.n, d.s, d.rs.map RuleI.L, d.fs.map FinI.L⟩
structure DescR (R : Option Addr → List Sp → World → Prop) (d : DescI) (W : World) : Prop where
  nums : I64 d.i ∧ I64 d.o ∧ I64 d.n ∧ I64 d.s
  rules : RulesAt R d.ra d.rs W
  fins : FinsAt R d.fa d.fs W
section
variable {R : Option Addr → List Sp → World → Prop}
theorem RuleR.stays (hR : Lasts R) : Stays (RuleR R) := fun r w w' h hb => ⟨h.1, h.2.1.below hR hb, TermsAt.below h.2.2 hb⟩
theorem FinR.stays (hR : Lasts R) : Stays (FinR R) := fun r w w' h hb => ⟨h.1, h.2.1.below hR hb, TermsAt.below h.2.2 hb⟩
theorem RuleR.below (hR : Lasts R) {r : RuleI} {w w' : World} (h : RuleR R r w) (hb : Below w.heap.size w w') : RuleR R r w' := RuleR.stays hR _ _ _ h hb
theorem FinR.below (hR : Lasts R) {r : FinI} {w w' : World} (h : FinR R r w) (hb : Below w.heap.size w w') : FinR R r w' := FinR.stays hR _ _ _ h hb
theorem RulesAt.below (hR : Lasts R) {A : Option Addr} {l : List RuleI} {w w' : World} (h : RulesAt R A l w) (hb : Below w.heap.size w w') : RulesAt R A l w' := RowsAt.below h (RuleR.stays hR) hb
theorem FinsAt.below (hR : Lasts R) {A : Option Addr} {l : List FinI} {w w' : World} (h : FinsAt R A l w) (hb : Below w.heap.size w w') : FinsAt R A l w' := RowsAt.below h (FinR.stays hR) hb
theorem DescR.below (hR : Lasts R) {d : DescI} {w w' : World} (h : DescR R d w) (hb : Below w.heap.size w w') : DescR R d w' := ⟨h.nums, h.rules.below hR hb, h.fins.below hR hb⟩
theorem RulesAt.at_ {A : Option Addr} {l : List RuleI} {W : World} (h : RulesAt R A l W) {j : Nat} (hj : j < l.length) : ∃ b off r, A = some ⟨b, off, none⟩ ∧ l[j]? = some r ∧ RuleR R r W ∧
    W.cell? ⟨b, off + j * 5, none⟩ = some (.int .i64 r.fr) ∧ W.cell? ⟨b, off + j * 5 + 1, none⟩ = some (.int .i64 r.dst) ∧ W.cell? ⟨b, off + j * 5 + 2, none⟩ = some (.slice r.ga r.gs.length r.gc) ∧ W.cell? ⟨b, off + j * 5 + 3, none⟩ = some (.int .i64 r.e) ∧
    W.cell? ⟨b, off + j * 5 + 4, none⟩ = some (.slice r.o.a r.o.l.length r.o.c) := by
  obtain ⟨b, off, p, hA, hp, hc, hw⟩ := RowsAt.at_ h (fun _ => rfl) hj
  exact ⟨b, off, p, hA, hp, hw, hc 0 _ rfl, hc 1 _ rfl, hc 2 _ rfl, hc 3 _ rfl, hc 4 _ rfl⟩
theorem FinsAt.at_ {A : Option Addr} {l : List FinI} {W : World} (h : FinsAt R A l W) {j : Nat} (hj : j < l.length) : ∃ b off r, A = some ⟨b, off, none⟩ ∧ l[j]? = some r ∧ FinR R r W ∧
    W.cell? ⟨b, off + j * 3, none⟩ = some (.int .i64 r.fr) ∧ W.cell? ⟨b, off + j * 3 + 1, none⟩ = some (.slice r.ga r.gs.length r.gc) ∧ W.cell? ⟨b, off + j * 3 + 2, none⟩ = some (.slice r.o.a r.o.l.length r.o.c) := by
  obtain ⟨b, off, p, hA, hp, hc, hw⟩ := RowsAt.at_ h (fun _ => rfl) hj
  exact ⟨b, off, p, hA, hp, hw, hc 0 _ rfl, hc 1 _ rfl, hc 2 _ rfl⟩
end
abbrev RuleW := RuleR Lst
abbrev FinW := FinR Lst
abbrev DescW := DescR Lst
def domL (s : Int) : List Sp := if s = 1 then [(0, 255)] else if s = 2 then [(0, 55295), (57344, 1114111)] else []
def SortOk (s : Int) : Prop := s = 1 ∨ s = 2
theorem domL_plain (s : Int) : Plain (domL s) := by
  unfold domL
  split
  · simp [Plain, PlainF]
  · split <;> simp [Plain, PlainF]
theorem domL_nil (s : Int) : domL s = [] ↔ ¬ SortOk s := by
  unfold domL SortOk
  split
  · rename_i h; simp [h]
  · split
    · rename_i h; simp [h]
    · rename_i h1 h2; simp [h1, h2]
def InD (s x : Int) : Prop := InS (domL s) x
theorem inD_iff (s x : Int) : InD s x ↔ ((s = 1 ∧ 0 ≤ x ∧ x ≤ 255) ∨ (s = 2 ∧ ((0 ≤ x ∧ x ≤ 55295) ∨ (57344 ≤ x ∧ x ≤ 1114111)))) := by
  unfold InD domL
  split
  · rename_i h; simp [h, InS]
  · split
    · rename_i h; simp [h, InS]
    · rename_i h1 h2; simp [h1, h2, InS]
theorem inD_mem (s x : Int) : Mem (domL s) x ↔ InD s x := (domL_plain s).mem x
def StateOk (n s : Int) : Prop := 0 ≤ s ∧ s < n
def HeadOk (d : DescL) : Prop := SortOk d.i ∧ SortOk d.o ∧ 1 ≤ d.n ∧ d.n ≤ 1024 ∧ StateOk d.n d.s ∧ d.rules.length ≤ 4096 ∧ d.fins.length ≤ 4096
def GuardOk (i : Int) (g : List Sp) : Prop := g ≠ [] ∧ g.length ≤ 64 ∧ Plain g ∧ ∀ x, Mem g x → InD i x
def GuardsOk (i : Int) (gs : List (List Sp)) : Prop := gs.length ≤ 4 ∧ ∀ g ∈ gs, GuardOk i g
def WholeP (p : PartL) : Prop := p.2.1 = 0 ∧ p.2.2.1 = 21 ∧ p.2.2.2 = 0
def PlainT (t : TermL) : Prop := t.base = 0 ∧ t.drop = 0 ∧ t.take = 21 ∧ t.up = 0
def TermRt (i o : Int) (n : Nat) (t : TermL) : Prop :=
  SortOk i ∧ SortOk o ∧ NumsOk t ∧ (∀ p ∈ t.parts, PartOk n p ∧ (i = 2 → WholeP p)) ∧ (i = 2 → t.parts.length ≤ 1) ∧ (o = 2 → PlainT t)
def WinG (gs : List (List Sp)) (w : List Int) : Prop := hitM gs w ∧ WinOk w
def FitsP (i o : Int) (gs : List (List Sp)) (t : TermL) : Prop := TermRt i o gs.length t ∧ ∀ w, WinG gs w → ValOk t w ∧ InD o (valN t w)
def WritesOk (i o : Int) (gs : List (List Sp)) (out : List TermL) : Prop := out.length ≤ 64 ∧ ∀ t ∈ out, FitsP i o gs t
def RuleOk (d : DescL) (r : RuleL) : Prop := StateOk d.n r.fr ∧ StateOk d.n r.dst ∧ GuardsOk d.i r.gs ∧ min (r.gs.length : Int) 1 ≤ r.eat ∧ r.eat ≤ r.gs.length ∧ WritesOk d.i d.o r.gs r.out
def FinOk (d : DescL) (f : FinL) : Prop := StateOk d.n f.fr ∧ GuardsOk d.i f.gs ∧ WritesOk d.i d.o f.gs f.out
def epsE (l : List RuleL) : List Kahn.Edge := (l.filter fun r => r.gs.isEmpty).map fun r => (r.fr.toNat, r.dst.toNat)
def CycP (d : DescL) : Prop := Kahn.cyc (epsE d.rules) d.n.toNat = true
structure DescOk (d : DescL) : Prop where
  head : HeadOk d
  rules : ∀ r ∈ d.rules, RuleOk d r
  fins : ∀ f ∈ d.fins, FinOk d f
  cyc : ¬ CycP d
end Go.Proofs.Ytlmkokeapbleoaa
end
section
namespace Go.Proofs.Ytlmkokeapbleoaa
open Go.RowKit
theorem DomX_any (s : Int) (w : World) : Calls Try.prog 18 #[.int .i64 s] w (NewSpans w (domL s)) := by
  unfold domL
  by_cases h1 : s = 1
  · rw [if_pos h1]
    subst h1
    go_enter Try.func18, Try.ntmps18
    go_wp2
    go_ret
    exact NewSpans.lit (by simp) _ 1 rfl _ rfl
  · rw [if_neg h1]
    have g1 : (s == 1) = false := by simpa using h1
    by_cases h2 : s = 2
    · rw [if_pos h2]
      subst h2
      clear h1
      go_enter Try.func18, Try.ntmps18
      go_wp2
      go_ret
      exact NewSpans.lit (by simp) _ 2 rfl _ rfl
    · rw [if_neg h2]
      have g2 : (s == 2) = false := by simpa using h2
      clear h1 h2
      go_enter Try.func18, Try.ntmps18
      go_wp2
      go_ret
      exact NewSpans.nil_ w
section
variable {w0 w : World} {F : World → Prop} {A B : Option Addr} {a b : List Sp}
theorem DomX_st (hK : Hid (St w0 w F)) (s : Int) : Calls Try.prog 18 #[.int .i64 s] w (RetL w0 (domL s) F) :=
  (DomX_any s w).mono fun e w1 h => retL_new hK (domL_plain s) h
theorem Within_p (hK : Hid (St w0 w F)) (ha : ∀ W, F W → Lst A a W) (hb : ∀ W, F W → Lst B b W) (c d : Nat) (v : Bool) (hv : Hid (pB (∀ x, Mem a x → Mem b x) = v)) :
    Calls Try.prog 46 #[.slice A a.length c, .slice B b.length d] w (RetV w0 (.bool v) F) := by
  obtain ⟨r, hr⟩ := rep_minus a b
  refine Within_st hK ha hb c d hr (v := v) ?_
  rw [← hv.out, Bool.eq_iff_iff, decide_eq_true_iff, pB_iff]
  constructor
  · rintro rfl x hx
    apply Classical.byContradiction
    intro hn
    exact rep_nil hr.out x ⟨hx, hn⟩
  · intro h
    rcases r with _ | ⟨p, r⟩
    · rfl
    · have hp := hr.out.1
      have := (hr.out.2 p.1).1 (.inl ⟨Int.le_refl _, hp.2.1⟩)
      exact absurd (h _ this.1) this.2
def GuardsTo (i : Int) (gs : List (List Sp)) (k : Nat) : Prop := ∀ g ∈ gs.take k, GuardOk i g
theorem guards_st (hK : Hid (St w0 w F)) (i : Int) {O : List (Item Sp)} (ha : ∀ W, F W → LLx A O W) (c : Nat) (v : Bool) (hv : Hid (pB (GuardsOk i (bodies O)) = v)) :
    Calls Try.prog 33 #[.int .i64 i, .slice A O.length c] w (RetV w0 (.bool v) F) := by
  have HA := Lib.hid ha
  clear ha
  by_cases h4 : O.length ≤ 4
  case neg =>
    have h4' : ¬ (O.length : Int) ≤ 4 := by omega
    obtain rfl := pB_f hv (fun h => h4 (by have := h.1; rwa [bodies_length] at this))
    go_enter Try.func33, Try.ntmps33
    go_wp2_with fail
    go_ret
    exact ⟨rfl, hK⟩
  have h4' : (O.length : Int) ≤ 4 := by omega
  go_enter Try.func33, Try.ntmps33
  go_wp2_with fail
  refine (DomX_st hK i).mono ?_
  rintro e w1 ⟨A1, c1, rfl, HK1⟩
  go_wp2_with fail
  go_loopw [15] (fun iv wr => ∃ k : Nat, k ≤ O.length ∧ iv = .int .i64 k ∧ Hid (GuardsTo i (bodies O) k) ∧ Hid (St w0 wr (fun W => Lst A1 (domL i) W ∧ F W))) (fun iv _ => O.length - (intOf iv).toNat)
  case atStart => exact ⟨0, Nat.zero_le _, rfl, Lib.hid (fun g hg => by simp at hg), HK1⟩
  case round =>
  clear HK1
  obtain ⟨k, hk, rfl, HR, HK⟩ := hrel
  by_cases hlt : k < O.length
  · obtain ⟨gb, off, ba, bc, b, rfl, _, hb, hc, hl⟩ := (HA.out _ HK.out.now.2).at_ hlt
    have HX := Lib.hid hb
    have hbl := hl.len
    have HKi := Lib.hid (HK.out.add (Below.refl _ _) (G := Lst ba b) (fun W hW => hl.below hW))
    have HBAD : ¬ GuardOk i b → v = false := fun h => pB_f hv (fun g => h (g.2 b (List.mem_of_getElem? HX.out)))
    have HRES := Lib.hid (fun W (h : Hid (St w0 W (fun W => Lst ba b W ∧ Lst A1 (domL i) W ∧ F W))) => (Lib.hid (h.out.weaken fun _ h => h.2.2) : Hid (St w0 W F)))
    clear hb hl
    by_cases g1 : b.length = 0
    · have g1' : ((b.length : Int) == 0) = true := by rw [g1]; rfl
      obtain rfl := HBAD fun h => h.1 (List.length_eq_zero_iff.1 g1)
      clear HBAD g1
      go_wp2_with fail
      go_ret
      exact ⟨rfl, HRES.out _ HKi⟩
    have g1' : ((b.length : Int) == 0) = false := by rw [beq_eq_false_iff_ne]; omega
    by_cases g2 : b.length ≤ 64
    case neg =>
      have g2' : ¬ (b.length : Int) ≤ 64 := by omega
      obtain rfl := HBAD fun h => g2 h.2.1
      clear HBAD g1
      go_wp2_with fail
      go_ret
      exact ⟨rfl, HRES.out _ HKi⟩
    have g2' : (b.length : Int) ≤ 64 := by omega
    rcases hp : plainB (-1073741826) b with _ | _
    · obtain rfl := HBAD fun h => by have := (plainB_iff _ _).2 (show PlainF (-1073741826) b from h.2.2.1); rw [hp] at this; cases this
      have HP := Lib.hid hp
      clear HBAD g1 hp
      go_wp2_with fail
      refine (Check_st HKi (fun _ h => h.1) bc HP.out).mono ?_
      rintro e w3 ⟨rfl, HK3⟩
      go_wp2_with fail
      go_ret
      exact ⟨rfl, HRES.out _ HK3⟩
    have HP := Lib.hid hp
    by_cases g4 : ∀ x, Mem b x → Mem (domL i) x
    case neg =>
      obtain rfl := HBAD fun h => g4 fun x hx => (inD_mem i x).2 (h.2.2.2 x hx)
      have HW := Lib.hid (pB_false g4)
      clear HBAD g1 hp g4
      go_wp2_with fail
      refine (Check_st HKi (fun _ h => h.1) bc HP.out).mono ?_
      rintro e w3 ⟨rfl, HK3⟩
      go_wp2_with fail
      refine (Within_p HK3 (fun _ h => h.1) (fun _ h => h.2.1) bc c1 false HW).mono ?_
      rintro e w4 ⟨rfl, HK4⟩
      go_wp2_with fail
      go_ret
      exact ⟨rfl, HRES.out _ HK4⟩
    have HW := Lib.hid (pB_true g4)
    have HN : Hid (GuardsTo i (bodies O) (k + 1)) := Lib.hid fun q hq => by
      rw [take_snoc? HX.out] at hq
      rcases List.mem_append.1 hq with hq | hq
      · exact HR.out q hq
      · simp at hq; subst hq
        exact ⟨fun h => g1 (by rw [h]; rfl), g2, (plainB_iff _ _).1 hp, fun x hx => (inD_mem i x).1 (g4 x hx)⟩
    clear HBAD g1 hp g4
    go_wp2_with fail
    refine (Check_st HKi (fun _ h => h.1) bc HP.out).mono ?_
    rintro e w3 ⟨rfl, HK3⟩
    go_wp2_with fail
    refine (Within_p HK3 (fun _ h => h.1) (fun _ h => h.2.1) bc c1 true HW).mono ?_
    rintro e w4 ⟨rfl, HK4⟩
    go_wp2_with fail
    go_roundw
    case rel => exact ⟨k + 1, by omega, by go_num, HN, Lib.hid (HK4.out.weaken fun _ h => h.2)⟩
    case measure => simp [intOf]; omega
  · obtain rfl : k = O.length := by omega
    have hd : decide (O.length < O.length) = false := by simp
    obtain rfl := pB_t hv ⟨by rw [bodies_length]; omega, by have := HR.out; unfold GuardsTo at this; rwa [List.take_of_length_le (by rw [bodies_length]; omega)] at this⟩
    go_wp2_with fail
    go_ret
    exact ⟨rfl, Lib.hid (HK.out.weaken fun _ h => h.2)⟩
end
end Go.Proofs.Ytlmkokeapbleoaa
end
