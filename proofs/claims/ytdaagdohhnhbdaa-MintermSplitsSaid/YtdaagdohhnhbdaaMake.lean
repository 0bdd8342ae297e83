/- Contract of umlautref01.Make: the plain list of two sets' union, of what they have in common, or of what the first has alone. Condition: lists of fewer than 2^20 spans, whose numbers are ints. -/
import Derived.Test.YtdaagdohhnhbdaaMakeLaw
import Derived.Deep.RegionWith
namespace Go.Proofs.Ytdaagdohhnhbdaa
open Go.RowKit
set_option linter.unusedVariables false

/-- a call that leaves the world alone, however often that has drawn -/
def QuietAt (P : Program) (f : FuncId) (args : Array Value) (w : World) (v : Value) : Prop := ∀ n, Calls P f args (w.drewN n) fun e w' => e = .returned v ∧ w.drewN n = w'
theorem QuietAt.q1 {P : Program} {f : FuncId} {args : Array Value} {w : World} {v : Value} (h : QuietAt P f args w v) {n : Nat} : Calls P f args (w.drewN n) fun e w'' => e = .returned v ∧ ∃ m, w'' = w.drewN m :=
  (h n).mono fun _ _ ⟨he, hm⟩ => ⟨he, n, hm.symm⟩
theorem info59 : (Try.prog.info? 34).map (fun i => (i.zero, i.size, i.bytes)) = some (some (.agg #[.int .i64 0, .int .i64 0]), 2, 16) := by kernel_rfl
/-- what is handed out lies in a block of its own, or is empty -/
def Fresh (B : Nat) (e : Ending) : Prop := ∃ A n c, e = .returned (.slice A n c) ∧ (n = 0 ∨ ∃ g, A = some ⟨g, 0, none⟩ ∧ B ≤ g)
theorem Fresh.of_own {w' : World} {B base size n : Nat} {t : TypeId} {v : Value} {xs : List Value} (h : w'.ownsRow base t size v n xs) (hB : B ≤ base) : Fresh B (.returned v) := by
  rcases id h.2 with ⟨rfl, h0⟩ | ⟨g, cap, cur, rfl, hg, _⟩
  · exact ⟨_, _, _, rfl, .inl rfl⟩
  · exact ⟨_, _, _, rfl, .inr ⟨g, rfl, Nat.le_trans hB hg⟩⟩
def NewRep (w : World) (S : Int → Prop) (e : Ending) (w' : World) : Prop := ∃ r, NewSpans w r e w' ∧ Rep r S ∧ r.length ≤ 4194304 ∧ Fresh w.heap.size e
theorem NewSpans.of_own {w w' : World} {l : List Sp} {v : Value} {n base : Nat} {t : TypeId} (h : w'.ownsRow base t 2 v n (spanCells l)) (hb : Below w.heap.size w w') : NewSpans w l (.returned v) w' := by
  rcases id h with ⟨h1, ⟨rfl, rfl⟩ | ⟨g, cap, cur, rfl, _, _, hn, hc, _⟩⟩
  · exact ⟨none, 0, 0, rfl, Sl.of_own h, by omega, by omega, hb⟩
  · exact ⟨_, n, cap, rfl, Sl.of_own h, hn, hc, hb⟩
theorem spanCells_set (l : List Sp) (q : Sp) (to : Int) : (spanCells (l ++ [q])).set (l.length * 2 + 1) (.int .i64 to) = spanCells (l ++ [(q.1, to)]) := by
  rw [spanCells_append, spanCells_append, List.set_append_right _ _ (by rw [spanCells_length]; omega), spanCells_length]
  have : l.length * 2 + 1 - l.length * 2 = 1 := by omega
  rw [this]
  rfl
theorem snoc_cases (l : List Sp) : l = [] ∨ ∃ m q, l = m ++ [q] := by
  rcases List.eq_nil_or_concat l with rfl | ⟨m, q, e⟩
  · exact .inl rfl
  · exact .inr ⟨m, q, by rw [e, List.concat_eq_append]⟩

set_option maxRecDepth 100000 in
set_option maxHeartbeats 16000000 in
theorem Make0_any (A B : Option Addr) (n c m d : Nat) (a b : List Sp) (w : World) (h : Spans w A n a) (h' : Spans w B m b) (hw : SpW a) (hw' : SpW b) (hn : n < 1048576) (hm : m < 1048576) :
    Calls Try.prog 64 #[.slice A n c, .slice B m d, .int .i64 0] w (NewRep w (fun x => madeB 0 a b x = true)) := by
  obtain ⟨i0, hi, hz0, hz1, hz2⟩ := info_parts info59
  have HBO := Lib.hid (borders_any A B n c m d a b w h h' hw hw' hn hm)
  have hla := Lib.hid h.len
  have hlb := Lib.hid h'.len
  have HA := Lib.hid h
  have HB := Lib.hid h'
  clear h h' hw hw'
  go_enter Try.func64, Try.ntmps64
  go_wp2_with fail
  refine HBO.out.mono ?_
  rintro e w1 ⟨ys, ⟨C, N, cc, rfl, hC, hNc, hcc, hb1⟩, hbi⟩
  have HC := Lib.hid hC
  have HBI := Lib.hid hbi
  have HA1 := Lib.hid (HA.out.below hb1)
  have HB1 := Lib.hid (HB.out.below hb1)
  have hNl : N ≤ 4194304 := by
    have h1 := hbi.2.2.2.2
    have h2 := hla.out
    have h3 := hlb.out
    have h4 := hC.len
    rw [List.length_append] at h1
    omega
  have HBW := Lib.hid hb1
  clear hb1 hC hbi HA HB HBO
  go_wp2_with fail
  go_loopw [7, 9] (fun v i wr => ∃ (k : Nat) (out : List Sp), k ≤ N ∧ i = .int .i64 k ∧ wr.ownsRow w1.heap.size 34 2 v out.length (spanCells out) ∧ Below w1.heap.size w1 wr ∧ Hid (MInv 0 a b ys k out)) (fun _ i _ => N - (intOf i).toNat)
  case atStart => exact ⟨0, [], Nat.zero_le _, rfl, World.ownsRow_nil _ _ _ _, Below.refl _ _, MInv.start _ _ _ _ HBI.out⟩
  case round =>
  obtain ⟨k, out, hk, rfl, hown, hbel, hinv⟩ := hrel
  have HO := Lib.hid hown
  have HBE := Lib.hid hbel
  clear hown hbel
  by_cases hlt : k < N
  case neg =>
    have hd : decide (k < N) = false := by simpa using hlt
    go_wp2_with fail
    go_ret
    have e : k = ys.length := by have := HC.out.len; omega
    exact ⟨out, NewSpans.of_own HO.out (below_to HBW.out HBE.out), (e ▸ hinv.out).rep, by have := hinv.out.2.2; omega, Fresh.of_own HO.out HBW.out.size⟩
  obtain ⟨g, off, y, rfl, hy, hc1⟩ := HC.out.at_ hlt
  have hd1 := (HBE.out.cell (lt_of_cell hc1)).trans hc1
  have HY := Lib.hid hy
  have hyb := HBI.out.2.2.1 y (List.mem_of_getElem? hy)
  have hlm := lim_lt HBI.out.1 HBI.out.2.2.1 k y hy
  have QA : QuietAt Try.prog 59 #[.slice A n c, .int .i64 y] wr (.bool (hasB a y)) := fun q => rHas_any A n c a y _ ((HA1.out.below HBE.out).drewN q) (by omega)
  have QB : QuietAt Try.prog 59 #[.slice B m d, .int .i64 y] wr (.bool (hasB b y)) := fun q => rHas_any B m d b y _ ((HB1.out.below HBE.out).drewN q) (by omega)
  have hmk : Hid (madeB 0 a b y = inHow 0 (hasB a y) (hasB b y)) := rfl
  generalize hasB a y = ba at *
  generalize hasB b y = bb at *
  have HQA := Lib.hid QA
  have HQB := Lib.hid QB
  clear QA QB hy hc1
  obtain ⟨Av, cv, hv⟩ := own_shape HO.out
  subst hv
  obtain ⟨z, hz, hzc⟩ : ∃ z : Int, Hid (lim ys (k + 1) - 1 = z) ∧ ((k + 1 < N ∧ (∀ q, (wr.drewN q).cell? ⟨g, off + (k + 1), none⟩ = some (.int .i64 (z + 1)))) ∨ (N ≤ k + 1 ∧ z = 1073741824)) := by
    by_cases hk1 : k + 1 < N
    · obtain ⟨g', off', z, hA', hz, hc⟩ := HC.out.at_ hk1
      cases hA'
      have e : lim ys (k + 1) = z := by unfold lim; rw [hz]; rfl
      refine ⟨z - 1, by rw [e]; rfl, .inl ⟨hk1, fun q => ?_⟩⟩
      rw [show z - 1 + 1 = z from by omega]
      exact (HBE.out.cell (lt_of_cell hc)).trans hc
    · refine ⟨1073741824, ?_, .inr ⟨by omega, rfl⟩⟩
      unfold lim
      rw [List.getElem?_eq_none (by have := HC.out.len; omega)]
      rfl
  have hzb : y ≤ z ∧ z ≤ 1073741824 := by have := hz.out; omega
  clear hlm
  rcases ba with _ | _
  · rcases bb with _ | _
    · go_wp2_with fail
      go_quiet ((first | (go_at_call_of 59 (Value.slice A n c); exact HQA.out.q1) | (go_at_call_of 59 (Value.slice B m d); exact HQB.out.q1)))
      have HIN := Lib.hid (hinv.out.skip HBI.out HY.out (by rw [hmk.out]; simp [inHow]))
      clear hmk hzc
      go_wp2_with fail
      go_roundw
      case rel => exact ⟨k + 1, out, by omega, by go_num, HO.out, below_drewN HBE.out _, HIN.out⟩
      case measure => simp [intOf]; omega
    · go_wp2_with fail
      go_quiet ((first | (go_at_call_of 59 (Value.slice A n c); exact HQA.out.q1) | (go_at_call_of 59 (Value.slice B m d); exact HQB.out.q1)))
      have hin := Lib.hid (show madeB 0 a b y = true by rw [hmk.out]; simp [inHow])
      clear hmk
      rcases snoc_cases out with rfl | ⟨ol, oq, rfl⟩
      · have HIN := Lib.hid (hinv.out.push HBI.out HY.out hin.out (fun l q e => by simp at e))
        rw [hz.out] at HIN
        rcases hzc with ⟨hk1, hzc⟩ | ⟨hk1, rfl⟩
        all_goals
          go_wp2_with (first | go_quiet (fail) | (at_builtin; go_must (refine wpList_push rfl _ _ 24 rfl w1.heap.size 34 i0 _ 2 16 Try.underlying24 hi hz0 hz1 hz2 rfl (by decide) (ownsRow_drewN HO.out _) rfl [.int .i64 y, .int .i64 _] _ rfl rfl (one2 rfl rfl) (by decide) (by omega) HBE.out.size ?_); intro v' w2 hown2 hg2 _))
          have HB2 := Lib.hid (below_pushed (below_drewN HBE.out _) (ownsRow_drewN HO.out _) (Nat.le_refl _) HBE.out.size hg2)
          have HO2 := Lib.hid hown2
          clear hown2 hg2
          go_wp2_with fail
          go_roundw
          case rel => exact ⟨k + 1, [(y, _)], by omega, by go_num, HO2.out, HB2.out, HIN.out⟩
          case measure => simp [intOf]; omega
      · obtain ⟨g2, cap2, hv2, hb2, hl2⟩ := HO.out.form (by simp)
        obtain ⟨rfl, rfl⟩ : Av = some ⟨g2, 0, none⟩ ∧ cv = cap2 := by injection hv2 with h1 h2 h3; exact ⟨h1, h3⟩
        clear hv2
        have hol : ol.length < 4194304 + 1 := by have := hinv.out.2.2; simp at this; omega
        have hq1 : wr.cell? ⟨g2, ol.length * 2 + 1, none⟩ = some (.int .i64 oq.2) := by
          rw [HO.out.cellAt _ (by simp; omega)]
          exact (spanCells_at (ol ++ [oq]) ol.length oq (by simp)).2
        have hqb := (PlainF.last hinv.out.1).2.2
        have hqf := HO.out.frozenAt (ol.length * 2 + 1)
        obtain ⟨hst, _⟩ := HO.out.stored (ol.length * 2 + 1) (.int .i64 z)
        rw [spanCells_set] at hst
        have HST := Lib.hid hst
        clear hst
        have HLEN : Hid ((ol ++ [oq]).length = ol.length + 1) := by unfold Hid; simp
        have HLEN2 : Hid ((ol ++ [(oq.1, z)]).length = ol.length + 1) := by unfold Hid; simp
        have HLEN3 : Hid (((ol ++ [oq]) ++ [(y, z)]).length = ol.length + 1 + 1) := by unfold Hid; simp
        rw [HLEN.out] at HO HST ⊢
        by_cases hmg : oq.2 = y - 1
        · have HIN := Lib.hid (hinv.out.merge HBI.out HY.out hin.out hmg)
          rw [hz.out] at HIN
          have hbq : (oq.2 == y - 1) = true := by simpa using hmg
          clear hmg
          rcases hzc with ⟨hk1, hzc⟩ | ⟨hk1, rfl⟩
          all_goals
            go_wp2_with (go_quiet (fail))
            go_roundw
            case rel => exact ⟨k + 1, ol ++ [(oq.1, _)], by omega, by go_num, by rw [HLEN2.out]; exact HST.out, (below_drewN HBE.out _).setCell hb2 _, HIN.out⟩
            case measure => simp [intOf]; omega
        · have HIN := Lib.hid (hinv.out.push HBI.out HY.out hin.out (fun l q e => by
            have := List.append_inj_right' e rfl
            simp at this
            rw [← this]; exact hmg))
          rw [hz.out] at HIN
          have hbq : (oq.2 == y - 1) = false := by simpa using hmg
          clear hmg hqf HST
          rcases hzc with ⟨hk1, hzc⟩ | ⟨hk1, rfl⟩
          all_goals
            go_wp2_with (first | go_quiet (fail) | (at_builtin; go_must (refine wpList_push rfl _ _ 24 rfl w1.heap.size 34 i0 _ 2 16 Try.underlying24 hi hz0 hz1 hz2 rfl (by decide) (ownsRow_drewN HO.out _) rfl [.int .i64 y, .int .i64 _] _ rfl rfl (one2 rfl rfl) (by omega) (by omega) HBE.out.size ?_); intro v' w2 hown2 hg2 _))
            have HB2 := Lib.hid (below_pushed (below_drewN HBE.out _) (ownsRow_drewN HO.out _) (Nat.le_refl _) HBE.out.size hg2)
            have HO2 := Lib.hid hown2
            clear hown2 hg2
            go_wp2_with fail
            go_roundw
            case rel => exact ⟨k + 1, (ol ++ [oq]) ++ [(y, _)], by omega, by go_num, by rw [HLEN3.out, spanCells_append]; exact HO2.out, HB2.out, HIN.out⟩
            case measure => simp [intOf]; omega
  · go_wp2_with fail
    go_quiet ((first | (go_at_call_of 59 (Value.slice A n c); exact HQA.out.q1) | (go_at_call_of 59 (Value.slice B m d); exact HQB.out.q1)))
    have hin := Lib.hid (show madeB 0 a b y = true by rw [hmk.out]; simp [inHow])
    clear hmk
    rcases snoc_cases out with rfl | ⟨ol, oq, rfl⟩
    · have HIN := Lib.hid (hinv.out.push HBI.out HY.out hin.out (fun l q e => by simp at e))
      rw [hz.out] at HIN
      rcases hzc with ⟨hk1, hzc⟩ | ⟨hk1, rfl⟩
      all_goals
        go_wp2_with (first | go_quiet (fail) | (at_builtin; go_must (refine wpList_push rfl _ _ 24 rfl w1.heap.size 34 i0 _ 2 16 Try.underlying24 hi hz0 hz1 hz2 rfl (by decide) (ownsRow_drewN HO.out _) rfl [.int .i64 y, .int .i64 _] _ rfl rfl (one2 rfl rfl) (by decide) (by omega) HBE.out.size ?_); intro v' w2 hown2 hg2 _))
        have HB2 := Lib.hid (below_pushed (below_drewN HBE.out _) (ownsRow_drewN HO.out _) (Nat.le_refl _) HBE.out.size hg2)
        have HO2 := Lib.hid hown2
        clear hown2 hg2
        go_wp2_with fail
        go_roundw
        case rel => exact ⟨k + 1, [(y, _)], by omega, by go_num, HO2.out, HB2.out, HIN.out⟩
        case measure => simp [intOf]; omega
    · obtain ⟨g2, cap2, hv2, hb2, hl2⟩ := HO.out.form (by simp)
      obtain ⟨rfl, rfl⟩ : Av = some ⟨g2, 0, none⟩ ∧ cv = cap2 := by injection hv2 with h1 h2 h3; exact ⟨h1, h3⟩
      clear hv2
      have hol : ol.length < 4194304 + 1 := by have := hinv.out.2.2; simp at this; omega
      have hq1 : wr.cell? ⟨g2, ol.length * 2 + 1, none⟩ = some (.int .i64 oq.2) := by
        rw [HO.out.cellAt _ (by simp; omega)]
        exact (spanCells_at (ol ++ [oq]) ol.length oq (by simp)).2
      have hqb := (PlainF.last hinv.out.1).2.2
      have hqf := HO.out.frozenAt (ol.length * 2 + 1)
      obtain ⟨hst, _⟩ := HO.out.stored (ol.length * 2 + 1) (.int .i64 z)
      rw [spanCells_set] at hst
      have HST := Lib.hid hst
      clear hst
      have HLEN : Hid ((ol ++ [oq]).length = ol.length + 1) := by unfold Hid; simp
      have HLEN2 : Hid ((ol ++ [(oq.1, z)]).length = ol.length + 1) := by unfold Hid; simp
      have HLEN3 : Hid (((ol ++ [oq]) ++ [(y, z)]).length = ol.length + 1 + 1) := by unfold Hid; simp
      rw [HLEN.out] at HO HST ⊢
      by_cases hmg : oq.2 = y - 1
      · have HIN := Lib.hid (hinv.out.merge HBI.out HY.out hin.out hmg)
        rw [hz.out] at HIN
        have hbq : (oq.2 == y - 1) = true := by simpa using hmg
        clear hmg
        rcases hzc with ⟨hk1, hzc⟩ | ⟨hk1, rfl⟩
        all_goals
          go_wp2_with (go_quiet (fail))
          go_roundw
          case rel => exact ⟨k + 1, ol ++ [(oq.1, _)], by omega, by go_num, by rw [HLEN2.out]; exact HST.out, (below_drewN HBE.out _).setCell hb2 _, HIN.out⟩
          case measure => simp [intOf]; omega
      · have HIN := Lib.hid (hinv.out.push HBI.out HY.out hin.out (fun l q e => by
          have := List.append_inj_right' e rfl
          simp at this
          rw [← this]; exact hmg))
        rw [hz.out] at HIN
        have hbq : (oq.2 == y - 1) = false := by simpa using hmg
        clear hmg hqf HST
        rcases hzc with ⟨hk1, hzc⟩ | ⟨hk1, rfl⟩
        all_goals
          go_wp2_with (first | go_quiet (fail) | (at_builtin; go_must (refine wpList_push rfl _ _ 24 rfl w1.heap.size 34 i0 _ 2 16 Try.underlying24 hi hz0 hz1 hz2 rfl (by decide) (ownsRow_drewN HO.out _) rfl [.int .i64 y, .int .i64 _] _ rfl rfl (one2 rfl rfl) (by omega) (by omega) HBE.out.size ?_); intro v' w2 hown2 hg2 _))
          have HB2 := Lib.hid (below_pushed (below_drewN HBE.out _) (ownsRow_drewN HO.out _) (Nat.le_refl _) HBE.out.size hg2)
          have HO2 := Lib.hid hown2
          clear hown2 hg2
          go_wp2_with fail
          go_roundw
          case rel => exact ⟨k + 1, (ol ++ [oq]) ++ [(y, _)], by omega, by go_num, by rw [HLEN3.out, spanCells_append]; exact HO2.out, HB2.out, HIN.out⟩
          case measure => simp [intOf]; omega

set_option maxRecDepth 100000 in
set_option maxHeartbeats 16000000 in
theorem Make1_any (A B : Option Addr) (n c m d : Nat) (a b : List Sp) (w : World) (h : Spans w A n a) (h' : Spans w B m b) (hw : SpW a) (hw' : SpW b) (hn : n < 1048576) (hm : m < 1048576) :
    Calls Try.prog 64 #[.slice A n c, .slice B m d, .int .i64 1] w (NewRep w (fun x => madeB 1 a b x = true)) := by
  obtain ⟨i0, hi, hz0, hz1, hz2⟩ := info_parts info59
  have HBO := Lib.hid (borders_any A B n c m d a b w h h' hw hw' hn hm)
  have hla := Lib.hid h.len
  have hlb := Lib.hid h'.len
  have HA := Lib.hid h
  have HB := Lib.hid h'
  clear h h' hw hw'
  go_enter Try.func64, Try.ntmps64
  go_wp2_with fail
  refine HBO.out.mono ?_
  rintro e w1 ⟨ys, ⟨C, N, cc, rfl, hC, hNc, hcc, hb1⟩, hbi⟩
  have HC := Lib.hid hC
  have HBI := Lib.hid hbi
  have HA1 := Lib.hid (HA.out.below hb1)
  have HB1 := Lib.hid (HB.out.below hb1)
  have hNl : N ≤ 4194304 := by
    have h1 := hbi.2.2.2.2
    have h2 := hla.out
    have h3 := hlb.out
    have h4 := hC.len
    rw [List.length_append] at h1
    omega
  have HBW := Lib.hid hb1
  clear hb1 hC hbi HA HB HBO
  go_wp2_with fail
  go_loopw [7, 9] (fun v i wr => ∃ (k : Nat) (out : List Sp), k ≤ N ∧ i = .int .i64 k ∧ wr.ownsRow w1.heap.size 34 2 v out.length (spanCells out) ∧ Below w1.heap.size w1 wr ∧ Hid (MInv 1 a b ys k out)) (fun _ i _ => N - (intOf i).toNat)
  case atStart => exact ⟨0, [], Nat.zero_le _, rfl, World.ownsRow_nil _ _ _ _, Below.refl _ _, MInv.start _ _ _ _ HBI.out⟩
  case round =>
  obtain ⟨k, out, hk, rfl, hown, hbel, hinv⟩ := hrel
  have HO := Lib.hid hown
  have HBE := Lib.hid hbel
  clear hown hbel
  by_cases hlt : k < N
  case neg =>
    have hd : decide (k < N) = false := by simpa using hlt
    go_wp2_with fail
    go_ret
    have e : k = ys.length := by have := HC.out.len; omega
    exact ⟨out, NewSpans.of_own HO.out (below_to HBW.out HBE.out), (e ▸ hinv.out).rep, by have := hinv.out.2.2; omega, Fresh.of_own HO.out HBW.out.size⟩
  obtain ⟨g, off, y, rfl, hy, hc1⟩ := HC.out.at_ hlt
  have hd1 := (HBE.out.cell (lt_of_cell hc1)).trans hc1
  have HY := Lib.hid hy
  have hyb := HBI.out.2.2.1 y (List.mem_of_getElem? hy)
  have hlm := lim_lt HBI.out.1 HBI.out.2.2.1 k y hy
  have QA : QuietAt Try.prog 59 #[.slice A n c, .int .i64 y] wr (.bool (hasB a y)) := fun q => rHas_any A n c a y _ ((HA1.out.below HBE.out).drewN q) (by omega)
  have QB : QuietAt Try.prog 59 #[.slice B m d, .int .i64 y] wr (.bool (hasB b y)) := fun q => rHas_any B m d b y _ ((HB1.out.below HBE.out).drewN q) (by omega)
  have hmk : Hid (madeB 1 a b y = inHow 1 (hasB a y) (hasB b y)) := rfl
  generalize hasB a y = ba at *
  generalize hasB b y = bb at *
  have HQA := Lib.hid QA
  have HQB := Lib.hid QB
  clear QA QB hy hc1
  obtain ⟨Av, cv, hv⟩ := own_shape HO.out
  subst hv
  obtain ⟨z, hz, hzc⟩ : ∃ z : Int, Hid (lim ys (k + 1) - 1 = z) ∧ ((k + 1 < N ∧ (∀ q, (wr.drewN q).cell? ⟨g, off + (k + 1), none⟩ = some (.int .i64 (z + 1)))) ∨ (N ≤ k + 1 ∧ z = 1073741824)) := by
    by_cases hk1 : k + 1 < N
    · obtain ⟨g', off', z, hA', hz, hc⟩ := HC.out.at_ hk1
      cases hA'
      have e : lim ys (k + 1) = z := by unfold lim; rw [hz]; rfl
      refine ⟨z - 1, by rw [e]; rfl, .inl ⟨hk1, fun q => ?_⟩⟩
      rw [show z - 1 + 1 = z from by omega]
      exact (HBE.out.cell (lt_of_cell hc)).trans hc
    · refine ⟨1073741824, ?_, .inr ⟨by omega, rfl⟩⟩
      unfold lim
      rw [List.getElem?_eq_none (by have := HC.out.len; omega)]
      rfl
  have hzb : y ≤ z ∧ z ≤ 1073741824 := by have := hz.out; omega
  clear hlm
  rcases ba with _ | _
  · go_wp2_with fail
    go_quiet ((first | (go_at_call_of 59 (Value.slice A n c); exact HQA.out.q1) | (go_at_call_of 59 (Value.slice B m d); exact HQB.out.q1)))
    have HIN := Lib.hid (hinv.out.skip HBI.out HY.out (by rw [hmk.out]; simp [inHow]))
    clear hmk hzc
    go_wp2_with fail
    go_roundw
    case rel => exact ⟨k + 1, out, by omega, by go_num, HO.out, below_drewN HBE.out _, HIN.out⟩
    case measure => simp [intOf]; omega
  · rcases bb with _ | _
    · go_wp2_with fail
      go_quiet ((first | (go_at_call_of 59 (Value.slice A n c); exact HQA.out.q1) | (go_at_call_of 59 (Value.slice B m d); exact HQB.out.q1)))
      have HIN := Lib.hid (hinv.out.skip HBI.out HY.out (by rw [hmk.out]; simp [inHow]))
      clear hmk hzc
      go_wp2_with fail
      go_roundw
      case rel => exact ⟨k + 1, out, by omega, by go_num, HO.out, below_drewN HBE.out _, HIN.out⟩
      case measure => simp [intOf]; omega
    · go_wp2_with fail
      go_quiet ((first | (go_at_call_of 59 (Value.slice A n c); exact HQA.out.q1) | (go_at_call_of 59 (Value.slice B m d); exact HQB.out.q1)))
      have hin := Lib.hid (show madeB 1 a b y = true by rw [hmk.out]; simp [inHow])
      clear hmk
      rcases snoc_cases out with rfl | ⟨ol, oq, rfl⟩
      · have HIN := Lib.hid (hinv.out.push HBI.out HY.out hin.out (fun l q e => by simp at e))
        rw [hz.out] at HIN
        rcases hzc with ⟨hk1, hzc⟩ | ⟨hk1, rfl⟩
        all_goals
          go_wp2_with (first | go_quiet (fail) | (at_builtin; go_must (refine wpList_push rfl _ _ 24 rfl w1.heap.size 34 i0 _ 2 16 Try.underlying24 hi hz0 hz1 hz2 rfl (by decide) (ownsRow_drewN HO.out _) rfl [.int .i64 y, .int .i64 _] _ rfl rfl (one2 rfl rfl) (by decide) (by omega) HBE.out.size ?_); intro v' w2 hown2 hg2 _))
          have HB2 := Lib.hid (below_pushed (below_drewN HBE.out _) (ownsRow_drewN HO.out _) (Nat.le_refl _) HBE.out.size hg2)
          have HO2 := Lib.hid hown2
          clear hown2 hg2
          go_wp2_with fail
          go_roundw
          case rel => exact ⟨k + 1, [(y, _)], by omega, by go_num, HO2.out, HB2.out, HIN.out⟩
          case measure => simp [intOf]; omega
      · obtain ⟨g2, cap2, hv2, hb2, hl2⟩ := HO.out.form (by simp)
        obtain ⟨rfl, rfl⟩ : Av = some ⟨g2, 0, none⟩ ∧ cv = cap2 := by injection hv2 with h1 h2 h3; exact ⟨h1, h3⟩
        clear hv2
        have hol : ol.length < 4194304 + 1 := by have := hinv.out.2.2; simp at this; omega
        have hq1 : wr.cell? ⟨g2, ol.length * 2 + 1, none⟩ = some (.int .i64 oq.2) := by
          rw [HO.out.cellAt _ (by simp; omega)]
          exact (spanCells_at (ol ++ [oq]) ol.length oq (by simp)).2
        have hqb := (PlainF.last hinv.out.1).2.2
        have hqf := HO.out.frozenAt (ol.length * 2 + 1)
        obtain ⟨hst, _⟩ := HO.out.stored (ol.length * 2 + 1) (.int .i64 z)
        rw [spanCells_set] at hst
        have HST := Lib.hid hst
        clear hst
        have HLEN : Hid ((ol ++ [oq]).length = ol.length + 1) := by unfold Hid; simp
        have HLEN2 : Hid ((ol ++ [(oq.1, z)]).length = ol.length + 1) := by unfold Hid; simp
        have HLEN3 : Hid (((ol ++ [oq]) ++ [(y, z)]).length = ol.length + 1 + 1) := by unfold Hid; simp
        rw [HLEN.out] at HO HST ⊢
        by_cases hmg : oq.2 = y - 1
        · have HIN := Lib.hid (hinv.out.merge HBI.out HY.out hin.out hmg)
          rw [hz.out] at HIN
          have hbq : (oq.2 == y - 1) = true := by simpa using hmg
          clear hmg
          rcases hzc with ⟨hk1, hzc⟩ | ⟨hk1, rfl⟩
          all_goals
            go_wp2_with (go_quiet (fail))
            go_roundw
            case rel => exact ⟨k + 1, ol ++ [(oq.1, _)], by omega, by go_num, by rw [HLEN2.out]; exact HST.out, (below_drewN HBE.out _).setCell hb2 _, HIN.out⟩
            case measure => simp [intOf]; omega
        · have HIN := Lib.hid (hinv.out.push HBI.out HY.out hin.out (fun l q e => by
            have := List.append_inj_right' e rfl
            simp at this
            rw [← this]; exact hmg))
          rw [hz.out] at HIN
          have hbq : (oq.2 == y - 1) = false := by simpa using hmg
          clear hmg hqf HST
          rcases hzc with ⟨hk1, hzc⟩ | ⟨hk1, rfl⟩
          all_goals
            go_wp2_with (first | go_quiet (fail) | (at_builtin; go_must (refine wpList_push rfl _ _ 24 rfl w1.heap.size 34 i0 _ 2 16 Try.underlying24 hi hz0 hz1 hz2 rfl (by decide) (ownsRow_drewN HO.out _) rfl [.int .i64 y, .int .i64 _] _ rfl rfl (one2 rfl rfl) (by omega) (by omega) HBE.out.size ?_); intro v' w2 hown2 hg2 _))
            have HB2 := Lib.hid (below_pushed (below_drewN HBE.out _) (ownsRow_drewN HO.out _) (Nat.le_refl _) HBE.out.size hg2)
            have HO2 := Lib.hid hown2
            clear hown2 hg2
            go_wp2_with fail
            go_roundw
            case rel => exact ⟨k + 1, (ol ++ [oq]) ++ [(y, _)], by omega, by go_num, by rw [HLEN3.out, spanCells_append]; exact HO2.out, HB2.out, HIN.out⟩
            case measure => simp [intOf]; omega

set_option maxRecDepth 100000 in
set_option maxHeartbeats 16000000 in
theorem Make2_any (A B : Option Addr) (n c m d : Nat) (a b : List Sp) (w : World) (h : Spans w A n a) (h' : Spans w B m b) (hw : SpW a) (hw' : SpW b) (hn : n < 1048576) (hm : m < 1048576) :
    Calls Try.prog 64 #[.slice A n c, .slice B m d, .int .i64 2] w (NewRep w (fun x => madeB 2 a b x = true)) := by
  obtain ⟨i0, hi, hz0, hz1, hz2⟩ := info_parts info59
  have HBO := Lib.hid (borders_any A B n c m d a b w h h' hw hw' hn hm)
  have hla := Lib.hid h.len
  have hlb := Lib.hid h'.len
  have HA := Lib.hid h
  have HB := Lib.hid h'
  clear h h' hw hw'
  go_enter Try.func64, Try.ntmps64
  go_wp2_with fail
  refine HBO.out.mono ?_
  rintro e w1 ⟨ys, ⟨C, N, cc, rfl, hC, hNc, hcc, hb1⟩, hbi⟩
  have HC := Lib.hid hC
  have HBI := Lib.hid hbi
  have HA1 := Lib.hid (HA.out.below hb1)
  have HB1 := Lib.hid (HB.out.below hb1)
  have hNl : N ≤ 4194304 := by
    have h1 := hbi.2.2.2.2
    have h2 := hla.out
    have h3 := hlb.out
    have h4 := hC.len
    rw [List.length_append] at h1
    omega
  have HBW := Lib.hid hb1
  clear hb1 hC hbi HA HB HBO
  go_wp2_with fail
  go_loopw [7, 9] (fun v i wr => ∃ (k : Nat) (out : List Sp), k ≤ N ∧ i = .int .i64 k ∧ wr.ownsRow w1.heap.size 34 2 v out.length (spanCells out) ∧ Below w1.heap.size w1 wr ∧ Hid (MInv 2 a b ys k out)) (fun _ i _ => N - (intOf i).toNat)
  case atStart => exact ⟨0, [], Nat.zero_le _, rfl, World.ownsRow_nil _ _ _ _, Below.refl _ _, MInv.start _ _ _ _ HBI.out⟩
  case round =>
  obtain ⟨k, out, hk, rfl, hown, hbel, hinv⟩ := hrel
  have HO := Lib.hid hown
  have HBE := Lib.hid hbel
  clear hown hbel
  by_cases hlt : k < N
  case neg =>
    have hd : decide (k < N) = false := by simpa using hlt
    go_wp2_with fail
    go_ret
    have e : k = ys.length := by have := HC.out.len; omega
    exact ⟨out, NewSpans.of_own HO.out (below_to HBW.out HBE.out), (e ▸ hinv.out).rep, by have := hinv.out.2.2; omega, Fresh.of_own HO.out HBW.out.size⟩
  obtain ⟨g, off, y, rfl, hy, hc1⟩ := HC.out.at_ hlt
  have hd1 := (HBE.out.cell (lt_of_cell hc1)).trans hc1
  have HY := Lib.hid hy
  have hyb := HBI.out.2.2.1 y (List.mem_of_getElem? hy)
  have hlm := lim_lt HBI.out.1 HBI.out.2.2.1 k y hy
  have QA : QuietAt Try.prog 59 #[.slice A n c, .int .i64 y] wr (.bool (hasB a y)) := fun q => rHas_any A n c a y _ ((HA1.out.below HBE.out).drewN q) (by omega)
  have QB : QuietAt Try.prog 59 #[.slice B m d, .int .i64 y] wr (.bool (hasB b y)) := fun q => rHas_any B m d b y _ ((HB1.out.below HBE.out).drewN q) (by omega)
  have hmk : Hid (madeB 2 a b y = inHow 2 (hasB a y) (hasB b y)) := rfl
  generalize hasB a y = ba at *
  generalize hasB b y = bb at *
  have HQA := Lib.hid QA
  have HQB := Lib.hid QB
  clear QA QB hy hc1
  obtain ⟨Av, cv, hv⟩ := own_shape HO.out
  subst hv
  obtain ⟨z, hz, hzc⟩ : ∃ z : Int, Hid (lim ys (k + 1) - 1 = z) ∧ ((k + 1 < N ∧ (∀ q, (wr.drewN q).cell? ⟨g, off + (k + 1), none⟩ = some (.int .i64 (z + 1)))) ∨ (N ≤ k + 1 ∧ z = 1073741824)) := by
    by_cases hk1 : k + 1 < N
    · obtain ⟨g', off', z, hA', hz, hc⟩ := HC.out.at_ hk1
      cases hA'
      have e : lim ys (k + 1) = z := by unfold lim; rw [hz]; rfl
      refine ⟨z - 1, by rw [e]; rfl, .inl ⟨hk1, fun q => ?_⟩⟩
      rw [show z - 1 + 1 = z from by omega]
      exact (HBE.out.cell (lt_of_cell hc)).trans hc
    · refine ⟨1073741824, ?_, .inr ⟨by omega, rfl⟩⟩
      unfold lim
      rw [List.getElem?_eq_none (by have := HC.out.len; omega)]
      rfl
  have hzb : y ≤ z ∧ z ≤ 1073741824 := by have := hz.out; omega
  clear hlm
  rcases ba with _ | _
  · go_wp2_with fail
    go_quiet ((first | (go_at_call_of 59 (Value.slice A n c); exact HQA.out.q1) | (go_at_call_of 59 (Value.slice B m d); exact HQB.out.q1)))
    have HIN := Lib.hid (hinv.out.skip HBI.out HY.out (by rw [hmk.out]; simp [inHow]))
    clear hmk hzc
    go_wp2_with fail
    go_roundw
    case rel => exact ⟨k + 1, out, by omega, by go_num, HO.out, below_drewN HBE.out _, HIN.out⟩
    case measure => simp [intOf]; omega
  · rcases bb with _ | _
    · go_wp2_with fail
      go_quiet ((first | (go_at_call_of 59 (Value.slice A n c); exact HQA.out.q1) | (go_at_call_of 59 (Value.slice B m d); exact HQB.out.q1)))
      have hin := Lib.hid (show madeB 2 a b y = true by rw [hmk.out]; simp [inHow])
      clear hmk
      rcases snoc_cases out with rfl | ⟨ol, oq, rfl⟩
      · have HIN := Lib.hid (hinv.out.push HBI.out HY.out hin.out (fun l q e => by simp at e))
        rw [hz.out] at HIN
        rcases hzc with ⟨hk1, hzc⟩ | ⟨hk1, rfl⟩
        all_goals
          go_wp2_with (first | go_quiet (fail) | (at_builtin; go_must (refine wpList_push rfl _ _ 24 rfl w1.heap.size 34 i0 _ 2 16 Try.underlying24 hi hz0 hz1 hz2 rfl (by decide) (ownsRow_drewN HO.out _) rfl [.int .i64 y, .int .i64 _] _ rfl rfl (one2 rfl rfl) (by decide) (by omega) HBE.out.size ?_); intro v' w2 hown2 hg2 _))
          have HB2 := Lib.hid (below_pushed (below_drewN HBE.out _) (ownsRow_drewN HO.out _) (Nat.le_refl _) HBE.out.size hg2)
          have HO2 := Lib.hid hown2
          clear hown2 hg2
          go_wp2_with fail
          go_roundw
          case rel => exact ⟨k + 1, [(y, _)], by omega, by go_num, HO2.out, HB2.out, HIN.out⟩
          case measure => simp [intOf]; omega
      · obtain ⟨g2, cap2, hv2, hb2, hl2⟩ := HO.out.form (by simp)
        obtain ⟨rfl, rfl⟩ : Av = some ⟨g2, 0, none⟩ ∧ cv = cap2 := by injection hv2 with h1 h2 h3; exact ⟨h1, h3⟩
        clear hv2
        have hol : ol.length < 4194304 + 1 := by have := hinv.out.2.2; simp at this; omega
        have hq1 : wr.cell? ⟨g2, ol.length * 2 + 1, none⟩ = some (.int .i64 oq.2) := by
          rw [HO.out.cellAt _ (by simp; omega)]
          exact (spanCells_at (ol ++ [oq]) ol.length oq (by simp)).2
        have hqb := (PlainF.last hinv.out.1).2.2
        have hqf := HO.out.frozenAt (ol.length * 2 + 1)
        obtain ⟨hst, _⟩ := HO.out.stored (ol.length * 2 + 1) (.int .i64 z)
        rw [spanCells_set] at hst
        have HST := Lib.hid hst
        clear hst
        have HLEN : Hid ((ol ++ [oq]).length = ol.length + 1) := by unfold Hid; simp
        have HLEN2 : Hid ((ol ++ [(oq.1, z)]).length = ol.length + 1) := by unfold Hid; simp
        have HLEN3 : Hid (((ol ++ [oq]) ++ [(y, z)]).length = ol.length + 1 + 1) := by unfold Hid; simp
        rw [HLEN.out] at HO HST ⊢
        by_cases hmg : oq.2 = y - 1
        · have HIN := Lib.hid (hinv.out.merge HBI.out HY.out hin.out hmg)
          rw [hz.out] at HIN
          have hbq : (oq.2 == y - 1) = true := by simpa using hmg
          clear hmg
          rcases hzc with ⟨hk1, hzc⟩ | ⟨hk1, rfl⟩
          all_goals
            go_wp2_with (go_quiet (fail))
            go_roundw
            case rel => exact ⟨k + 1, ol ++ [(oq.1, _)], by omega, by go_num, by rw [HLEN2.out]; exact HST.out, (below_drewN HBE.out _).setCell hb2 _, HIN.out⟩
            case measure => simp [intOf]; omega
        · have HIN := Lib.hid (hinv.out.push HBI.out HY.out hin.out (fun l q e => by
            have := List.append_inj_right' e rfl
            simp at this
            rw [← this]; exact hmg))
          rw [hz.out] at HIN
          have hbq : (oq.2 == y - 1) = false := by simpa using hmg
          clear hmg hqf HST
          rcases hzc with ⟨hk1, hzc⟩ | ⟨hk1, rfl⟩
          all_goals
            go_wp2_with (first | go_quiet (fail) | (at_builtin; go_must (refine wpList_push rfl _ _ 24 rfl w1.heap.size 34 i0 _ 2 16 Try.underlying24 hi hz0 hz1 hz2 rfl (by decide) (ownsRow_drewN HO.out _) rfl [.int .i64 y, .int .i64 _] _ rfl rfl (one2 rfl rfl) (by omega) (by omega) HBE.out.size ?_); intro v' w2 hown2 hg2 _))
            have HB2 := Lib.hid (below_pushed (below_drewN HBE.out _) (ownsRow_drewN HO.out _) (Nat.le_refl _) HBE.out.size hg2)
            have HO2 := Lib.hid hown2
            clear hown2 hg2
            go_wp2_with fail
            go_roundw
            case rel => exact ⟨k + 1, (ol ++ [oq]) ++ [(y, _)], by omega, by go_num, by rw [HLEN3.out, spanCells_append]; exact HO2.out, HB2.out, HIN.out⟩
            case measure => simp [intOf]; omega
    · go_wp2_with fail
      go_quiet ((first | (go_at_call_of 59 (Value.slice A n c); exact HQA.out.q1) | (go_at_call_of 59 (Value.slice B m d); exact HQB.out.q1)))
      have HIN := Lib.hid (hinv.out.skip HBI.out HY.out (by rw [hmk.out]; simp [inHow]))
      clear hmk hzc
      go_wp2_with fail
      go_roundw
      case rel => exact ⟨k + 1, out, by omega, by go_num, HO.out, below_drewN HBE.out _, HIN.out⟩
      case measure => simp [intOf]; omega
end Go.Proofs.Ytdaagdohhnhbdaa
