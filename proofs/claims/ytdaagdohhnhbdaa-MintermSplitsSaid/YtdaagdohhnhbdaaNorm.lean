/- Contract of span.Norm: the plain list of a set, in a row of the call's own. Condition: a list of fewer than 2^40 spans, whose numbers are ints. -/
import Derived.Test.YtdaagdohhnhbdaaSort
import Derived.Test.YtdaagdohhnhbdaaNormLaw
import Derived.Lib.MinMax
namespace Go.Proofs.Ytdaagdohhnhbdaa
open Go.RowKit
set_option linter.unusedVariables false

/-- a call that returns the plain list of a set, in a row of its own -/
def OwnRep (w : World) (base : Nat) (r : List Sp) (e : Ending) (w' : World) : Prop := ∃ v, e = .returned v ∧ v ≠ .slice none 0 0 ∧ w'.ownsRow base 34 2 v r.length (spanCells r) ∧ Below base w w'

set_option maxRecDepth 100000 in
set_option maxHeartbeats 16000000 in
theorem Norm_any (A : Option Addr) (n c : Nat) (l : List Sp) (w : World) (h : Spans w A n l) (hw : SpW l) (hn : n < 1099511627776) :
    Calls Try.prog 70 #[.slice A n c] w fun e w' => ∃ r, OwnRep w w.heap.size r e w' ∧ Rep r (Mem l) ∧ r.length ≤ n := by
  obtain ⟨i0, hi, hz0, hz1, hz2⟩ := info_parts info59
  obtain ⟨wm, hmk, hom, hgm⟩ := run_make_own (P := Try.prog) w w.heap.size 24 34 i0 _ 2 Try.underlying24 hi hz0 hz1 .i64 .i64 n (by rw [hz2]; omega) (by unfold maxLen; omega) (Nat.le_refl _)
  have hbm : Below w.heap.size w wm := (Below.refl _ _).grown hgm (Nat.le_refl _) (fun k hk => by cases hk)
  have HL := Lib.hid h.len
  have HA := Lib.hid h
  have HBM := Lib.hid hbm
  have HOM := Lib.hid hom
  clear h hbm hom hgm
  go_enter Try.func70, Try.ntmps70
  go_wp2_with fail
  go_loopw [3, 15] (fun v i wr => ∃ k : Nat, k ≤ n ∧ i = .int .i64 k ∧ wr.ownsRow w.heap.size 34 2 v (clips (l.take k)).length (spanCells (clips (l.take k))) ∧ Below w.heap.size w wr ∧ v ≠ .slice none 0 0) (fun _ i _ => n - (intOf i).toNat)
  case atStart => exact ⟨0, Nat.zero_le _, rfl, HOM.out, HBM.out, by simp⟩
  case round =>
  obtain ⟨k, hk, rfl, hown, hbel, hnn⟩ := hrel
  have HO := Lib.hid hown
  have HB := Lib.hid hbel
  have HNN := Lib.hid hnn
  clear hown hbel hnn
  by_cases hlt : k < n
  · obtain ⟨g, off, p, rfl, hp, hc1, hc2⟩ := HA.out.at_ hlt
    have hd1 := (HB.out.cell (lt_of_cell hc1)).trans hc1
    have hd2 := (HB.out.cell (lt_of_cell hc2)).trans hc2
    have HP := Lib.hid hp
    have hwp := hw p (List.mem_of_getElem? hp)
    obtain ⟨p1, p2⟩ := p
    clear hp hc1 hc2
    have hcl0 : Hid (clip (p1, p2) = (max p1 (-1073741824), min p2 1073741824)) := rfl
    obtain ⟨a, hma⟩ : ∃ a, max p1 (-1073741824) = a := ⟨_, rfl⟩
    obtain ⟨b, hmb⟩ : ∃ b, min p2 1073741824 = b := ⟨_, rfl⟩
    have hcl : Hid (clip (p1, p2) = (a, b)) := by unfold Hid; rw [hcl0.out, hma, hmb]
    clear hcl0
    obtain ⟨av, cv, hv⟩ := own_shape HO.out
    subst hv
    have hlc : Hid ((clips (l.take k)).length ≤ k) := by
      have := clips_length (l.take k)
      have h2 : (l.take k).length ≤ k := by simp; omega
      exact Nat.le_trans this h2
    by_cases hab : a ≤ b
    · go_wp2_with (at_builtin; go_must (refine wpList_push rfl _ _ 24 rfl w.heap.size 34 i0 _ 2 16 Try.underlying24 hi hz0 hz1 hz2 rfl (by decide) (HO.out.alloc (.cells #[.int .i64 a, .int .i64 b] 34)) rfl [.int .i64 a, .int .i64 b] _ (by first | rfl | (simp; rfl) | simp) rfl (one2 rfl rfl) (by have := hlc.out; omega) (by omega) (by have := HB.out.size; simp; omega) ?_); intro v' w2 hown2 hg2 hnil)
      refine ⟨⟨k + 1, by omega, by go_num, ?_, below_pushed (HB.out.alloc HB.out.size _) (HO.out.alloc _) (Nat.le_refl _) (by have := HB.out.size; simp; omega) hg2, ?_⟩, by simp [intOf]; omega⟩
      · have e : clips (l.take (k + 1)) = clips (l.take k) ++ [(a, b)] := by
          rw [take_snoc? HP.out, clips_append]
          simp only [clips, hcl.out]
          rw [if_pos hab]
        rw [e, spanCells_append, List.length_append]
        exact hown2
      · intro e
        have := (hnil.1 e).1
        exact HNN.out this
    · go_wp2_with fail
      refine ⟨⟨k + 1, by omega, by go_num, ?_, HB.out.alloc HB.out.size _, HNN.out⟩, by simp [intOf]; omega⟩
      have e : clips (l.take (k + 1)) = clips (l.take k) := by
        rw [take_snoc? HP.out, clips_append]
        simp only [clips, hcl.out]
        rw [if_neg hab, List.append_nil]
      rw [e]
      exact HO.out.alloc _
  · have hd : decide (k < n) = false := by simpa using hlt
    obtain rfl : k = n := by omega
    have et : l.take k = l := List.take_of_length_le (by rw [HL.out]; exact Nat.le_refl _)
    rw [et] at HO
    have hlc : Hid ((clips l).length ≤ k) := by have := clips_length l; rw [HL.out] at this; exact this
    clear et
    obtain ⟨av, cv, hv⟩ := own_shape HO.out
    subst hv
    obtain ⟨g, rfl, hbg⟩ : ∃ g, av = some ⟨g, 0, none⟩ ∧ w.heap.size ≤ g := by
      rcases HO.out.2 with ⟨e, _⟩ | ⟨g, cap, cur, e, hb, _⟩
      · exact absurd e HNN.out
      · injection e with e1
        exact ⟨g, e1, hb⟩
    have HS := Lib.hid (SortSpans_any w.heap.size g cv (clips l) wr HO.out (by have := hlc.out; omega))
    clear HO HNN
    go_wp2_with (go_at_call 98; refine HS.out.mono ?_; rintro e ws ⟨rfl, ls, hlen, hperm, hsort, hows, hgs⟩; have HLEN := Lib.hid hlen; have HPERM := Lib.hid hperm; have HSORT := Lib.hid hsort; have HOWS := Lib.hid hows; have HGS := Lib.hid hgs; clear hlen hperm hsort hows hgs)
    have HSRT : Hid (Srt ls) := Lib.hid ⟨HSORT.out, fun p hp => clips_mem (HPERM.out.mem_iff.1 hp)⟩
    clear HSORT
    generalize (clips l).length = N at *
    have HBS := Lib.hid ((HB.out).grown HGS.out HB.out.size (fun j hj => by cases hj; exact hbg))
    clear HB HGS HS
    go_loopw [6, 43] (fun v i wr => ∃ (i' : Nat) (o J : List Sp), i' ≤ N ∧ i = .int .i64 i' ∧ v = .slice (some ⟨g, 0, none⟩) o.length cv ∧ wr.ownsRow w.heap.size 34 2 (.slice (some ⟨g, 0, none⟩) N cv) N (spanCells (o ++ J ++ ls.drop i')) ∧ Hid (o.length + J.length = i') ∧ Below w.heap.size w wr ∧ Hid (NInv ls i' o)) (fun _ i _ => N - (intOf i).toNat)
    case atStart => exact ⟨0, [], [], Nat.zero_le _, rfl, rfl, by simpa using HOWS.out, Lib.hid (by simp), HBS.out, Lib.hid (NInv.start ls)⟩
    case round =>
    obtain ⟨i, o, J, hiN, rfl, rfl, hown, HJ, hbel, HI⟩ := hrel
    have HO := Lib.hid hown
    have HB := Lib.hid hbel
    clear hown hbel
    have hNk : N ≤ k := hlc.out
    by_cases hlt2 : i < N
    · obtain ⟨x, hx⟩ : ∃ x, ls[i]? = some x := ⟨_, List.getElem?_eq_getElem (by have := HLEN.out; omega)⟩
      have HX := Lib.hid hx
      obtain ⟨x1, x2⟩ := x
      have hcx := spanCells_at _ _ _ (row_at o J ls i _ hx HJ.out)
      have hd1 : wr.cell? ⟨g, i * 2, none⟩ = some (.int .i64 x1) := by rw [HO.out.cellAt _ (by omega)]; exact hcx.1
      have hd2 : wr.cell? ⟨g, i * 2 + 1, none⟩ = some (.int .i64 x2) := by rw [HO.out.cellAt _ (by omega)]; exact hcx.2
      have hg0 : g < wr.heap.size := lt_of_cell hd1
      have HOA := Lib.hid (HO.out.alloc (.cells #[.int .i64 x1, .int .i64 x2] 34))
      have HBA := Lib.hid (HB.out.alloc HB.out.size (.cells #[.int .i64 x1, .int .i64 x2] 34))
      have hoi : Hid (o.length ≤ i) := Lib.hid (by have := HJ.out; omega)
      clear hx hcx
      rcases snoc_cases o with rfl | ⟨m, q, rfl⟩
      · have HIN := Lib.hid (HI.out.push HSRT.out HX.out (fun m q e => by simp at e))
        go_wp2_with (first | go_quiet (fail) | (at_builtin; go_must (refine wpList_room rfl _ _ 24 rfl w.heap.size 34 i0 Try.underlying24 hi hz1 (ownsRow_drewN HOA.out _) (k := 0) (by omega) rfl (x1, x2) _ (by first | rfl | (simp; rfl) | simp) ?_); intro w2 hown2 hg2))
        have HO2 := Lib.hid hown2
        have HB2 := Lib.hid (((below_drewN HBA.out _).alloc (by have := HBA.out.size; simpa using this) _).grown hg2 (by have := HBA.out.size; simp at *; omega) (fun j hj => by cases hj; exact hbg))
        clear hown2 hg2
        go_wp2_with fail
        go_roundw
        case rel =>
          obtain ⟨J', e1, e2⟩ := room_push [] J ls i _ HX.out HJ.out
          refine ⟨i + 1, [] ++ [(x1, x2)], J', by omega, by go_num, by simp, ?_, Lib.hid e2, HB2.out, HIN.out⟩
          rw [← e1]
          exact HO2.out
        case measure => simp [intOf]; omega
      · have hqb := PlainF.last HI.out.plain
        have hqr : -1073741824 ≤ q.2 ∧ q.2 ≤ 1073741824 := by omega
        have hm1 : m.length + 1 ≤ i := by have := hoi.out; simpa using this
        obtain ⟨q1, q2⟩ := q
        simp only at hqr
        have hq := (spanCells_at _ _ _ (row_last m J ls (q1, q2) i)).2
        have hd3 : (wr.alloc (.cells #[.int .i64 x1, .int .i64 x2] 34)).cell? ⟨g, m.length * 2 + 1, none⟩ = some (.int .i64 q2) := by rw [HOA.out.cellAt _ (by omega)]; exact hq
        have HLEN1 : Hid ((m ++ [(q1, q2)]).length = m.length + 1) := by unfold Hid; simp
        have hxr := HSRT.out.2 _ (List.mem_of_getElem? HX.out)
        simp only at hxr
        rw [HLEN1.out]
        clear hqb hq
        by_cases hjn : x1 ≤ q2 + 1
        · obtain ⟨z, hz⟩ : ∃ z, max q2 x2 = z := ⟨_, rfl⟩
          have HIN := Lib.hid (HI.out.merge HSRT.out HX.out hjn)
          have hqf := HOA.out.frozenAt (m.length * 2 + 1)
          have HST := Lib.hid (HOA.out.stored (m.length * 2 + 1) (.int .i64 z)).1
          go_wp2_with (go_quiet (fail))
          go_region
          go_wp2_with fail
          go_roundw
          case rel =>
            obtain ⟨J', e1, e2⟩ := room_merge m J ls (q1, q2) i _ z HX.out HJ.out
            refine ⟨i + 1, m ++ [(q1, z)], J', by omega, by go_num, by simp, ?_, Lib.hid e2, (below_drewN HBA.out _).setCell hbg _, by rw [← hz]; exact HIN.out⟩
            rw [← e1]
            exact HST.out
          case measure => simp [intOf]; omega
        · have HIN := Lib.hid (HI.out.push HSRT.out HX.out (fun m' q' e => by
            have := List.append_inj_right' e rfl
            simp at this
            rw [← this]; simp only; omega))
          go_wp2_with (first | go_quiet (fail) | (at_builtin; go_must (refine wpList_room rfl _ _ 24 rfl w.heap.size 34 i0 Try.underlying24 hi hz1 (ownsRow_drewN HOA.out _) (k := m.length + 1) (by omega) rfl (x1, x2) _ (by first | rfl | (simp; rfl) | simp) ?_); intro w2 hown2 hg2))
          have HO2 := Lib.hid hown2
          have HB2 := Lib.hid (((below_drewN HBA.out _).alloc (by have := HBA.out.size; simpa using this) _).grown hg2 (by have := HBA.out.size; simp at *; omega) (fun j hj => by cases hj; exact hbg))
          clear hown2 hg2
          go_wp2_with fail
          go_roundw
          case rel =>
            obtain ⟨J', e1, e2⟩ := room_push (m ++ [(q1, q2)]) J ls i _ HX.out HJ.out
            refine ⟨i + 1, (m ++ [(q1, q2)]) ++ [(x1, x2)], J', by omega, by go_num, by simp, ?_, Lib.hid e2, HB2.out, HIN.out⟩
            rw [← e1, HLEN1.out]
            exact HO2.out
          case measure => simp [intOf]; omega
    · have hd : decide (i < N) = false := by simpa using hlt2
      obtain rfl : i = N := by omega
      go_wp2_with fail
      go_ret
      have e : i = ls.length := HLEN.out.symm
      refine ⟨o, ⟨_, rfl, by simp, own_cut HO.out (by have := HJ.out; omega) ?_, HB.out⟩, (e ▸ HI.out).rep HPERM.out, by have := HJ.out; have := hlc.out; omega⟩
      rw [List.append_assoc, List.take_left']
      rfl
end Go.Proofs.Ytdaagdohhnhbdaa
