/- Contracts of slices.Index at ints and of slices.Clone at spans. Condition: the list is known. Contracts of slices.Backward at parts and of the iterator that it gives: the places from the last one to the first one, each with its part. Condition: the loop's body keeps whatever is not its own. Plain facts: the places of a term's parts, each with its parts; the boxes out of the rows of sets; what they tell of a window. No program in sight. Condition: none. Plain facts: the document's example of chapter 12: one box or two; which windows are in them. No program in sight. Condition: none. Contracts of term.small, outer, rising, numbers, plain and Right of bytes. Condition: the parts at hand are known. Contracts of umlautref04.small, Outer, Numbers, Right of bytes. Condition: the parts at hand are known. Contracts of umlautlaw12.right and box.right: may a term be asked of so many symbols? Condition: the term's parts are known. What box.Boxes answers, in plain words; the document's example. No program in sight. Condition: none. -/
import Derived.Test.YtpmhdjiacgckjaaM09
import Derived.Test.YtpmhdjiacgckjaaM05
import Derived.Test.YtpmhdjiacgckjaaM06
import Derived.Test.YtpmhdjiacgckjaaM08
import Derived.Test.YtpmhdjiacgckjaaM14
import Derived.Test.YtpmhdjiacgckjaaM10
import Derived.Deep.RegionHeld3
import Derived.Deep.DeepCutAuto
section
namespace Go.Proofs.Ytpmhdjiacgckjaa
open Go.RowKit
set_option linter.unusedVariables false
set_option linter.unusedSimpArgs false
/-- the first place of a number, or -1 -/
def idxI (l : List Int) (x : Int) : Int := match l.findIdx? (· == x) with
  | some i => (i : Int)
  | none => -1
theorem idxI_at {l : List Int} {x : Int} {k : Nat} (h : l[k]? = some x) (hn : ∀ j, j < k → l[j]? ≠ some x) : idxI l x = k := by
  have hk : k < l.length := (List.getElem?_eq_some_iff.1 h).1
  unfold idxI
  have : l.findIdx? (· == x) = some k := by
    rw [List.findIdx?_eq_some_iff_getElem]
    refine ⟨hk, by simpa using (List.getElem?_eq_some_iff.1 h).2, fun j hj => ?_⟩
    have := hn j hj
    rw [List.getElem?_eq_getElem (by omega)] at this
    simpa using this
  rw [this]
theorem idxI_none {l : List Int} {x : Int} (hn : ∀ j : Nat, l[j]? ≠ some x) : idxI l x = -1 := by
  unfold idxI
  have : l.findIdx? (· == x) = none := by
    rw [List.findIdx?_eq_none_iff]
    intro y hy
    obtain ⟨j, hj⟩ := List.getElem?_of_mem hy
    have h := hn j
    rw [hj] at h
    simpa using h
  rw [this]
section
variable {w0 w : World} {F : World → Prop}
set_option maxRecDepth 100000 in
set_option maxHeartbeats 16000000 in
theorem Index_st (hK : Hid (St w0 w F)) {A : Option Addr} {l : List Int} (ha : ∀ W, F W → IntsAt A l W) (c : Nat) (x : Int) (hl : l.length ≤ 1048576) :
    Calls Try.prog 34 #[.slice A l.length c, .int .i64 x] w (RetV w0 (.int .i64 (idxI l x)) F) := by
  have HA := Lib.hid ha
  clear ha
  go_enter Try.func34, Try.ntmps34
  go_wp2_with fail
  go_loopw [8] (fun i wr => ∃ k : Nat, k ≤ l.length ∧ i = .int .i64 k ∧ Hid (∀ j : Nat, j < k → l[j]? ≠ some x) ∧ wr = w) (fun i _ => l.length - (intOf i).toNat)
  case atStart => exact ⟨0, Nat.zero_le _, rfl, Lib.hid (fun j hj => by omega), rfl⟩
  case round =>
  obtain ⟨k, hk, rfl, HN, rfl⟩ := hrel
  by_cases hlt : k < l.length
  · obtain ⟨gb, off, y, rfl, hy, _, hc⟩ := (HA.out _ hK.out.now).at_ hlt
    have HY := Lib.hid hy
    have hki : (k : Int) < (l.length : Int) := by omega
    clear hy
    by_cases hxy : x = y
    · subst hxy
      have HI := Lib.hid (idxI_at HY.out HN.out)
      go_wp2_with fail
      go_ret
      rw [HI.out]
      exact ⟨rfl, hK⟩
    · have HXY := Lib.hid hxy
      go_wp2_with fail
      go_roundw
      case rel => exact ⟨k + 1, by omega, by go_num, Lib.hid (fun j hj => by
        rcases Nat.lt_succ_iff_lt_or_eq.1 hj with h | h
        · exact HN.out j h
        · rw [h, HY.out]; intro e; injection e with e; exact HXY.out e.symm), trivial⟩
      case measure => simp [intOf]; omega
  · obtain rfl : k = l.length := by omega
    have hd : decide (l.length < l.length) = false := by simp
    have HI := Lib.hid (idxI_none (l := l) (x := x) (fun j h => by
      have hj := (List.getElem?_eq_some_iff.1 h).1
      exact HN.out j hj h))
    go_wp2_with fail
    go_ret
    rw [HI.out]
    exact ⟨rfl, hK⟩
set_option maxRecDepth 100000 in
set_option maxHeartbeats 16000000 in
theorem Clone_stN (hK : Hid (St w0 w F)) {A : Option Addr} {a : List Sp} (ha : ∀ W, F W → Lst A a W) (hp : Plain a) (c : Nat) :
    Calls Try.prog 38 #[.slice A a.length c] w (RetLN w0 w a F) := by
  have hla := ha _ hK.out.now
  have HP := Lib.hid hp
  clear hp
  rcases A with _ | ⟨b, o, q⟩
  · obtain rfl : a = [] := by
      cases a with
      | nil => rfl
      | cons p a =>
        obtain ⟨b, off, e, _⟩ := hla.sp.2 (by simp)
        cases e
    have q22 := fun (w : World) (a : Option Addr) (n c n' c' : Nat) => Lib.run_eql_slice_nil (P := Try.prog) w 26 52 a n c n' c' Try.underlying26
    go_enter Try.func38, Try.ntmps38
    go_wp2_with fail
    go_ret
    exact retLN_nil hK (Below.refl _ _)
  · have q22 := fun (w : World) (a : Option Addr) (n c n' c' : Nat) => Lib.run_eql_slice_nil (P := Try.prog) w 26 52 a n c n' c' Try.underlying26
    obtain ⟨i0, hi, hz0, hz1, hz2⟩ := info_parts info59
    have HSL : Hid (Sl (w.alloc (.cells #[] 52)) 2 (some ⟨b, o, q⟩) a.length (spanCells a)) := Lib.hid (hla.sp.alloc _)
    have hlen := hla.len
    have HON := Lib.hid (World.ownsRow_made w #[] 0 (e := 52) (size := 2) (Nat.le_refl w.heap.size) (Nat.zero_le _) (by simp))
    clear hla
    go_enter Try.func38, Try.ntmps38
    go_wp2_with (at_builtin; go_must (refine wpList_append_sl _ rfl _ _ 26 rfl w.heap.size 52 i0 _ 2 16 Try.underlying26 hi hz0 hz1 hz2 rfl (by decide) HON.out rfl HSL.out rfl (spans_one a) (by unfold maxLen; omega) (by omega) (by simp) ?_); intro v' w2 hown2 hg2)
    go_ret
    obtain ⟨A4, c4, rfl⟩ := own_shape hown2
    refine retLN_own hK HP.out ⟨_, rfl, by simpa using hown2, ((Below.refl _ w).alloc (Nat.le_refl _) _).grown hg2 (by simp) (fun k hk => by simp [Value.ownBlock] at hk; omega)⟩
theorem Move_stN {A : Option Addr} {a r : List Sp} (hK : Hid (St w0 w F)) (ha : ∀ W, F W → Lst A a W) (c : Nat) {d : Int} (hr : Hid (Rep r (fun x => -1073741824 ≤ x ∧ x ≤ 1073741824 ∧ Mem a (x - d)))) : Calls Try.prog 32 #[.slice A a.length c, .int .i64 d] w (RetLN w0 w r F) := by
  have h1 := ha w hK.out.now
  refine (Move_any A _ c a d w h1.sp h1.wd h1.len).mono ?_
  rintro e w1 ⟨r', ho, hr'⟩
  obtain rfl := Rep.unique hr' hr.out (fun _ => Iff.rfl)
  exact retLN_own hK hr'.1 ho
end
end Go.Proofs.Ytpmhdjiacgckjaa
end
section
namespace Go.Proofs.Ytpmhdjiacgckjaa
open Go.RowKit Go.Shelf
set_option linter.unusedVariables false
set_option linter.unusedSimpArgs false
attribute [local go_sem] Oper.semAt_some
def dsN : Nat → List Nat
  | 0 => []
  | n + 1 => n :: dsN n
theorem dsN_length (n : Nat) : (dsN n).length = n := by induction n with
  | zero => rfl
  | succ n ih => simp [dsN, ih]
abbrev PlP (ps : List PartL) := { p : Nat × PartL // ps[p.1]? = some p.2 }
def encP {ps : List PartL} (p : PlP ps) : Array Value := #[.int .i64 p.1.1, .agg #[.int .i64 p.1.2.1, .int .i64 p.1.2.2.1, .int .i64 p.1.2.2.2.1, .int .i64 p.1.2.2.2.2]]
set_option maxRecDepth 100000 in
set_option maxHeartbeats 8000000 in
theorem back_stops (F : Fence) (n : Nat) (hF : F.fn 52) (hro : F.round = none) (hn : 1 ≤ n) (B0 B c : Nat) (O : World → Nat → Prop) (hO : OnB B0 O) (qa : Option Addr) (ps : List PartL) (hps : ps.length ≤ 1048576) (w : World) (hB0 : B0 ≤ w.heap.size)
    (hB : w.cell? ⟨B, 0, none⟩ = some (.slice qa ps.length c)) (hBo : ¬ O w B) (hq : PartsAt qa ps w) (hqo : 0 < ps.length → ∀ b, (qa.map (·.block)) = some b → ¬ O w b) :
    SeqStopsK F n Try.prog 52 #[.pointer (some ⟨B, 0, none⟩)] (encP (ps := ps)) (KpO O) (fun ys => ys.map (·.1.1) = dsN ps.length) (fun pre => pre.map (·.1.1) <+: dsN ps.length) ps.length w := fun l J Jx W hW hJ _ hY h0 => by
  have hs : ∀ j, O W j ↔ O w j := hO _ _ fun k hk => hW.block k (by omega)
  have HY := Lib.hid hY
  have HJ := Lib.hid hJ
  have HI : Hid (¬ O W B ∧ (0 < ps.length → ∀ b, (qa.map (·.block)) = some b → ¬ O W b) ∧ PartsAt qa ps W ∧ W.cell? ⟨B, 0, none⟩ = some (.slice qa ps.length c)) :=
    Lib.hid ⟨fun h => hBo ((hs B).1 h), fun h0 b hb h => hqo h0 b hb ((hs b).1 h), hq.below hW, (hW.cell (lt_of_cell hB)).trans hB⟩
  have hB0W := Nat.le_trans hB0 hW.size
  have hcB := HI.out.2.2.2
  clear hY hJ hB hBo hq hqo hs
  refine callsIn_of_wp Try.func52 rfl hF ?_ hro
  simp only [Try.ntmps52, List.size_toArray, List.length_cons, List.length_nil, Nat.reduceAdd, Nat.reduceSub, Array.replicate_succ, Array.replicate_zero, List.push_toArray, List.append_toArray, List.nil_append, List.cons_append]
  gi_wp2
  gi_loopw [3] (fun iv wr => ∃ (m : Nat) (pre : List (PlP ps)), m ≤ ps.length ∧ iv = .int .i64 ((m : Int) - 1) ∧ J pre wr ∧ W.heap.size ≤ wr.heap.size ∧ Hid (pre.map (·.1.1) ++ dsN m = dsN ps.length) ∧ Hid (¬ O wr B ∧ (0 < ps.length → ∀ b, (qa.map (·.block)) = some b → ¬ O wr b) ∧ PartsAt qa ps wr ∧ wr.cell? ⟨B, 0, none⟩ = some (.slice qa ps.length c))) (fun iv _ => (intOf iv + 1).toNat)
  case atStart => exact ⟨ps.length, [], Nat.le_refl _, by simp, h0, Nat.le_refl _, Lib.hid (by simp), HI⟩
  case round =>
  obtain ⟨m, pre, hm, rfl, hJs, hsz, HD, HK⟩ := hrel
  cases m with
  | zero =>
    have HD0 : Hid (pre.map (·.1.1) = dsN ps.length) := Lib.hid (by have h := HD.out; simpa [dsN] using h)
    gi_wp2
    go_end0
    exact ⟨⟨_, rfl⟩, .inl ⟨pre, HD0.out, hJs⟩⟩
  | succ m =>
    obtain ⟨qb, qo, p, hqa, hp, _, hc1, hc2, hc3, hc4⟩ := HK.out.2.2.1.at_ (j := m) (by omega)
    have hcw := HK.out.2.2.2
    have HP := Lib.hid hp
    have hlen : pre.length < ps.length := by
      have h := congrArg List.length HD.out
      rw [List.length_append, List.length_map, dsN_length, dsN_length] at h
      omega
    obtain ⟨fn, tmps, assign, body, hy, hR⟩ := HY.out pre ⟨(m, p), hp⟩ wr hJs hlen
    have hmi : (m : Int) < (ps.length : Int) := by omega
    have hsm : ((m + 1 : Nat) : Int) - 1 = (m : Int) := by omega
    rw [hsm]
    unfold encP at hy
    simp only at hy
    have hpre : (pre ++ [(⟨(m, p), hp⟩ : PlP ps)]).map (fun x => x.1.1) ++ dsN m = dsN ps.length := by
      rw [← HD.out]; simp [dsN]
    have HPRE := Lib.hid hpre
    have HK2 := HK
    subst hqa
    clear hlen hpre HK
    gi_wp2
    refine hR.mono ?_
    rintro e W3 (⟨rfl, hJ3, hk3⟩ | ⟨rfl, hJx3⟩)
    · have hqb := HK2.out.2.1 (by omega) qb rfl
      have HM3 : Hid (¬ O W3 B ∧ (0 < ps.length → ∀ b, (Option.map (·.block) (some (⟨qb, qo, none⟩ : Addr))) = some b → ¬ O W3 b) ∧ PartsAt (some ⟨qb, qo, none⟩) ps W3 ∧ W3.cell? ⟨B, 0, none⟩ = some (.slice (some ⟨qb, qo, none⟩) ps.length c)) := by
        have hBl : B < wr.heap.size := lt_of_cell hcw
        have hql : qb < wr.heap.size := lt_of_cell hc1
        refine ⟨fun h => ?_, fun _ b hb h => ?_, ?_, hk3.cell _ _ hcw HK2.out.1⟩
        · rcases hk3.own _ h with h1 | h1
          · exact HK2.out.1 h1
          · omega
        · injection hb with hb
          simp only at hb; subst hb
          rcases hk3.own _ h with h1 | h1
          · exact hqb h1
          · omega
        · obtain ⟨h1, h2, h3⟩ := HK2.out.2.2.1
          refine ⟨⟨h1.1, fun h => ?_⟩, h2, h3⟩
          obtain ⟨b, o, he, hc⟩ := h1.2 h
          refine ⟨b, o, he, fun j u hu => hk3.cell _ _ (hc j u hu) ?_⟩
          injection he with he; injection he with he1 he2
          subst he1
          exact hqb
      have hs3 := hk3.size
      clear hk3
      gi_wp2
      go_roundw
      case rel => exact ⟨m, pre ++ [⟨(m, p), HP.out⟩], by omega, by go_num, hJ3, by omega, HPRE, HM3⟩
      case measure => simp [intOf]
    · gi_wp2
      refine bodyPost_ret (results_none rfl _ _ _) rfl ?_
      exact ⟨⟨_, rfl⟩, .inr ⟨_, ⟨dsN m, HPRE.out⟩, hJx3⟩⟩
set_option maxRecDepth 100000 in
theorem Backward_any (w : World) (A : Option Addr) (n c : Nat) : Calls Try.prog 33 #[.slice A n c] w
    (fun e w' => e = .returned (.func (.func 52) #[] #[.pointer (some ⟨w.heap.size, 0, none⟩)]) ∧ w' = w.alloc (.cells #[.slice A n c] 22)) := by
  go_enter Try.func33, Try.ntmps33
  go_wp2_with fail
  go_ret
  exact ⟨rfl, rfl⟩
end Go.Proofs.Ytpmhdjiacgckjaa
end
section
namespace Go.Proofs.Ytpmhdjiacgckjaa
set_option linter.unusedVariables false
set_option linter.unusedSimpArgs false
abbrev Plc := Int × List PartL
def addP : List Plc → PartL → List Plc
  | [], p => [(p.1, [p])]
  | (a, ps) :: L, p => if a = p.1 then (a, ps ++ [p]) :: L else (a, ps) :: addP L p
/-- the places of a term's parts, the last part first -/
def plcs (ps : List PartL) : List Plc := ps.reverse.foldl addP []
def pvalP (p : PartL) (x : Int) : Int := pval p.2.1 p.2.2.1 p.2.2.2 x
def totP (L : List Plc) (x : Int → Int) : Int := (L.map fun q => sumP q.2 (x q.1)).sum
theorem totP_add (L : List Plc) (p : PartL) (x : Int → Int) : totP (addP L p) x = totP L x + pvalP p (x p.1) := by
  induction L with
  | nil => simp [addP, totP, sumP, pvalP]
  | cons q L ih =>
    obtain ⟨a, ps⟩ := q
    unfold addP
    by_cases h : a = p.1
    · rw [if_pos h]
      simp only [totP, List.map_cons, List.sum_cons] at ih ⊢
      rw [sumP_snoc, h]; unfold pvalP; omega
    · rw [if_neg h]
      simp only [totP, List.map_cons, List.sum_cons] at ih ⊢
      omega
theorem foldP_tot (l : List PartL) (L : List Plc) (x : Int → Int) : totP (l.foldl addP L) x = totP L x + (l.map fun p => pvalP p (x p.1)).sum := by
  induction l generalizing L with
  | nil => simp
  | cons p l ih => rw [List.foldl_cons, ih, totP_add, List.map_cons, List.sum_cons]; omega
theorem sum_rev (l : List Int) : l.reverse.sum = l.sum := by
  induction l with
  | nil => rfl
  | cons x l ih => rw [List.reverse_cons, List.sum_append, ih]; simp; omega
theorem plcs_tot (ps : List PartL) (x : Int → Int) : totP (plcs ps) x = (ps.map fun p => pvalP p (x p.1)).sum := by
  unfold plcs
  rw [foldP_tot, List.map_reverse, sum_rev]
  simp [totP]
/-- places of these parts -/
structure PlcOk (L : List Plc) (ps : List PartL) : Prop where
  keys : (L.map (·.1)).Nodup
  has : ∀ q ∈ L, q.2 ≠ [] ∧ ∀ p ∈ q.2, p ∈ ps ∧ p.1 = q.1
  small : ∀ q ∈ L, q.2.length ≤ ps.length
  len : L.length ≤ ps.length
theorem addP_mem {L : List Plc} {p : PartL} {q : Plc} (h : q ∈ addP L p) : q ∈ L ∨ (q = (p.1, [p]) ∧ p.1 ∉ L.map (·.1)) ∨ ∃ ps, (p.1, ps) ∈ L ∧ q = (p.1, ps ++ [p]) := by
  induction L with
  | nil => simp [addP] at h; exact .inr (.inl ⟨h, by simp⟩)
  | cons r L ih =>
    obtain ⟨a, ps⟩ := r
    unfold addP at h
    by_cases ha : a = p.1
    · rw [if_pos ha] at h
      rcases List.mem_cons.1 h with h | h
      · exact .inr (.inr ⟨ps, by rw [← ha]; exact List.mem_cons_self .., by rw [h, ha]⟩)
      · exact .inl (List.mem_cons_of_mem _ h)
    · rw [if_neg ha] at h
      rcases List.mem_cons.1 h with h | h
      · exact .inl (by rw [h]; exact List.mem_cons_self ..)
      · rcases ih h with h1 | ⟨h1, h2⟩ | ⟨qs, h1, h2⟩
        · exact .inl (List.mem_cons_of_mem _ h1)
        · exact .inr (.inl ⟨h1, fun hm => by
            rcases List.mem_cons.1 hm with e | hm
            · exact ha e.symm
            · exact h2 hm⟩)
        · exact .inr (.inr ⟨qs, List.mem_cons_of_mem _ h1, h2⟩)
theorem addP_keys (L : List Plc) (p : PartL) : (addP L p).map (·.1) = if p.1 ∈ L.map (·.1) then L.map (·.1) else L.map (·.1) ++ [p.1] := by
  induction L with
  | nil => simp [addP]
  | cons r L ih =>
    obtain ⟨a, ps⟩ := r
    unfold addP
    by_cases ha : a = p.1
    · rw [if_pos ha]; subst ha; simp
    · rw [if_neg ha, List.map_cons, ih]
      by_cases hm : p.1 ∈ L.map (·.1)
      · rw [if_pos hm, if_pos (by rw [List.map_cons]; exact List.mem_cons_of_mem _ hm)]; rfl
      · rw [if_neg hm, if_neg (fun h => by
          rcases List.mem_cons.1 h with e | h
          · exact ha e.symm
          · exact hm h)]
        rfl
theorem PlcOk.add {L : List Plc} {ps : List PartL} {p : PartL} (h : PlcOk L ps) : PlcOk (addP L p) (ps ++ [p]) := by
  refine ⟨?_, fun q hq => ?_, fun q hq => ?_, ?_⟩
  · rw [addP_keys]
    by_cases hm : p.1 ∈ L.map (·.1)
    · rw [if_pos hm]; exact h.keys
    · rw [if_neg hm, List.nodup_append]
      exact ⟨h.keys, by simp, fun a ha b hb e => hm (by have : b = p.1 := by simpa using hb
                                                        rw [← this, ← e]; exact ha)⟩
  · rcases addP_mem hq with h1 | ⟨rfl, _⟩ | ⟨qs, h1, rfl⟩
    · exact ⟨(h.has q h1).1, fun r hr => ⟨List.mem_append.2 (.inl ((h.has q h1).2 r hr).1), ((h.has q h1).2 r hr).2⟩⟩
    · exact ⟨by simp, fun r hr => by obtain rfl : r = p := by simpa using hr
                                     exact ⟨by simp, rfl⟩⟩
    · refine ⟨by simp, fun r hr => ?_⟩
      rcases List.mem_append.1 hr with hr | hr
      · exact ⟨List.mem_append.2 (.inl ((h.has _ h1).2 r hr).1), ((h.has _ h1).2 r hr).2⟩
      · obtain rfl : r = p := by simpa using hr
        exact ⟨by simp, rfl⟩
  · rcases addP_mem hq with h1 | ⟨rfl, _⟩ | ⟨qs, h1, rfl⟩
    · have := h.small q h1; simp; omega
    · simp
    · have := h.small _ h1; simp at this ⊢; omega
  · have e := congrArg List.length (addP_keys L p)
    have := h.len
    rw [List.length_map] at e
    split at e <;> simp at e ⊢ <;> omega
theorem plcs_ok (ps : List PartL) : PlcOk (plcs ps) ps := by
  have key : ∀ (l : List PartL) (L : List Plc) (qs : List PartL), PlcOk L qs → PlcOk (l.foldl addP L) (qs ++ l) := by
    intro l
    induction l with
    | nil => intro L qs h; simpa using h
    | cons p l ih =>
      intro L qs h
      rw [List.foldl_cons]
      have := ih _ _ (h.add (p := p))
      simpa using this
  have h := key ps.reverse [] [] ⟨List.nodup_nil, fun q hq => (by cases hq), fun q hq => (by cases hq), Nat.le_refl _⟩
  rw [List.nil_append] at h
  exact ⟨h.keys, fun q hq => ⟨(h.has q hq).1, fun p hp => ⟨List.mem_reverse.1 ((h.has q hq).2 p hp).1, ((h.has q hq).2 p hp).2⟩⟩, fun q hq => by have := h.small q hq; simpa using this, by have := h.len; rw [List.length_reverse] at this; exact this⟩
/-- the greatest number of a plain list -/
def lastI (r : List Sp) : Int := optD (nthS r (cnt r - 1))
theorem last_ge {r : List Sp} (hp : Plain r) {v : Int} (hv : InS r v) : v ≤ lastI r := by
  have hm := (nums_mem r v).2 hv
  obtain ⟨i, hi⟩ := List.getElem?_of_mem hm
  have hil := (List.getElem?_eq_some_iff.1 hi).1
  have hlen := nums_length hp
  have hlast : (nums r)[(nums r).length - 1]? = nthS r (cnt r - 1) := by
    rw [nums_get hp]
    congr 1; omega
  unfold lastI
  rw [← hlast]
  have hl1 : (nums r).length - 1 < (nums r).length := by omega
  rw [List.getElem?_eq_getElem hl1]
  have hpw := numsL_rising hp
  have hiv := (List.getElem?_eq_some_iff.1 hi).2
  show v ≤ (nums r)[(nums r).length - 1]
  by_cases h : i = (nums r).length - 1
  · subst h; omega
  · have := (List.pairwise_iff_getElem.1 hpw) i ((nums r).length - 1) hil hl1 (by omega)
    have h2 : (nums r)[i] < (nums r)[(nums r).length - 1] := this
    omega
noncomputable def topP (p : PartL) (g : List Sp) : Int := lastI (plL (ImgS p.2.1 p.2.2.1 p.2.2.2 g))
noncomputable def lvOf (G : List (List Sp)) (q : Plc) : Lv := { g := G.getD q.1.toNat [], val := sumP q.2, one := decide (q.2.length = 1), top := (q.2.map fun p => topP p (G.getD q.1.toNat [])).sum }
theorem pval_top {p : PartL} {g : List Sp} (hb : bitsB p.2.1 p.2.2.1 p.2.2.2 = true) (hg : ∀ x, InS g x → 0 ≤ x ∧ x ≤ 2097151) {x : Int} (hx : InS g x) : pvalP p x ≤ topP p g := by
  have hbd := hg x hx
  have hr : Rep (plL (ImgS p.2.1 p.2.2.1 p.2.2.2 g)) (ImgS p.2.1 p.2.2.1 p.2.2.2 g) := plL_rep (rep_all _ fun v hv => by
    obtain ⟨_, y, _, _, _, rfl⟩ := hv
    have := pval_bd hb y; omega)
  exact last_ge hr.1 ((hr.2 _).2 ⟨hb, x, ⟨by omega, by omega, hx⟩, hbd.1, hbd.2, rfl⟩)
theorem lvOf_ok {G : List (List Sp)} {q : Plc} (hb : ∀ p ∈ q.2, bitsB p.2.1 p.2.2.1 p.2.2.2 = true) (hp : Plain (G.getD q.1.toNat [])) (hn : G.getD q.1.toNat [] ≠ []) (hg : ∀ x, InS (G.getD q.1.toNat []) x → 0 ≤ x ∧ x ≤ 2097151) : LvOk (lvOf G q) := by
  refine ⟨hp, hn, fun x _ => (sumP_bd hb x).1, fun x hx => ?_⟩
  show sumP q.2 x ≤ (q.2.map fun p => topP p (G.getD q.1.toNat [])).sum
  generalize hg2 : G.getD q.1.toNat [] = g at hx hg
  have hx2 : InS g x := by rw [← hg2]; exact hx
  generalize q.2 = l at hb
  induction l with
  | nil => simp [sumP]
  | cons p l ih =>
    have h1 := pval_top (hb p (List.mem_cons_self ..)) hg hx2
    have h2 := ih fun r hr => hb r (List.mem_cons_of_mem _ hr)
    simp only [sumP, List.map_cons, List.sum_cons] at h2 ⊢
    unfold pvalP at h1
    omega
/-- a box: the guards, and a row's sets at their places -/
def boxOf (G : List (List Sp)) : List Plc → Row → List (List Sp)
  | q :: L, s :: r => boxOf (G.set q.1.toNat s) L r
  | _, _ => G
def atW (w : List Int) (q : Plc) : Int := w.getD q.1.toNat 0
theorem valS_tot (G : List (List Sp)) (L : List Plc) (w : List Int) : valS (L.map (lvOf G)) (L.map (atW w)) = totP L (fun a => w.getD a.toNat 0) := by
  induction L with
  | nil => rfl
  | cons q L ih =>
    simp only [List.map_cons, valS, totP, List.sum_cons] at ih ⊢
    rw [ih]; rfl
theorem hitM_set {G : List (List Sp)} {w : List Int} {i : Nat} {s g : List Sp} (hi : G[i]? = some g) (hs : ∀ x, Mem s x → Mem g x) : hitM (G.set i s) w ↔ (hitM G w ∧ Mem s (w.getD i 0)) := by
  have hil := (List.getElem?_eq_some_iff.1 hi).1
  rw [hitM_iff, hitM_iff, List.length_set]
  constructor
  · rintro ⟨hl, h⟩
    have hwi : w[i]? = some (w[i]'(by omega)) := List.getElem?_eq_getElem (by omega)
    have hsi := h i s _ (List.getElem?_set_self hil) hwi
    refine ⟨⟨hl, fun k t x hk hx => ?_⟩, by rw [List.getD_eq_getElem?_getD, hwi]; exact hsi⟩
    by_cases e : i = k
    · subst e
      rw [hi] at hk; injection hk with hk; subst hk
      rw [hwi] at hx; injection hx with hx; subst hx
      exact hs _ hsi
    · exact h k t x (by rw [List.getElem?_set_ne e]; exact hk) hx
  · rintro ⟨⟨hl, h⟩, hm⟩
    refine ⟨hl, fun k t x hk hx => ?_⟩
    by_cases e : i = k
    · subst e
      rw [List.getElem?_set_self hil] at hk; injection hk with hk; subst hk
      rw [List.getD_eq_getElem?_getD, hx] at hm
      exact hm
    · exact h k t x (by rw [List.getElem?_set_ne e] at hk; exact hk) hx
theorem boxOf_hit : ∀ (L : List Plc) (row : Row) (G : List (List Sp)) (w : List Int), (L.map (·.1)).Nodup → (∀ q ∈ L, 0 ≤ q.1 ∧ q.1.toNat < G.length) → L.length = row.length → (∀ (k : Nat) q s, L[k]? = some q → row[k]? = some s → Plain s ∧ ∀ x, Mem s x → Mem (G.getD q.1.toNat []) x) →
    (hitM (boxOf G L row) w ↔ (hitM G w ∧ hit row (L.map (atW w))))
  | [], [], G, w, _, _, _, _ => by simp [boxOf, hit]
  | q :: L, s :: row, G, w, hn, hk, hl, hs => by
    rw [List.map_cons, List.nodup_cons] at hn
    obtain ⟨hq0, hql⟩ := hk q (List.mem_cons_self ..)
    obtain ⟨hps, hsub⟩ := hs 0 q s rfl rfl
    have hG : G[q.1.toNat]? = some (G.getD q.1.toNat []) := by rw [List.getD_eq_getElem?_getD, List.getElem?_eq_getElem hql]; rfl
    have hne : ∀ r ∈ L, r.1.toNat ≠ q.1.toNat := fun r hr e => hn.1 (List.mem_map.2 ⟨r, hr, by have := (hk r (List.mem_cons_of_mem _ hr)).1; omega⟩)
    show hitM (boxOf (G.set q.1.toNat s) L row) w ↔ (hitM G w ∧ (InS s (atW w q) ∧ hit row (L.map (atW w))))
    rw [boxOf_hit L row (G.set q.1.toNat s) w hn.2 (fun r hr => by rw [List.length_set]; exact hk r (List.mem_cons_of_mem _ hr)) (by simpa using hl) (fun k r t hr ht => by
      obtain ⟨h1, h2⟩ := hs (k + 1) r t (by simpa using hr) (by simpa using ht)
      refine ⟨h1, fun x hx => ?_⟩
      have h3 := h2 x hx
      rw [List.getD_eq_getElem?_getD, List.getElem?_set_ne (fun e => hne r (List.mem_of_getElem? hr) e.symm)]
      rw [List.getD_eq_getElem?_getD] at h3
      exact h3), hitM_set hG hsub, hps.mem (w.getD q.1.toNat 0)]
    show _ ↔ (hitM G w ∧ (InS s (w.getD q.1.toNat 0) ∧ hit row (L.map (atW w))))
    constructor
    · rintro ⟨⟨h1, h2⟩, h3⟩; exact ⟨h1, h2, h3⟩
    · rintro ⟨h1, h2, h3⟩; exact ⟨⟨h1, h2⟩, h3⟩
  | [], _ :: _, _, _, _, _, hl, _ => by simp at hl
  | _ :: _, [], _, _, _, _, hl, _ => by simp at hl
theorem rowOk_at {G : List (List Sp)} : ∀ {L : List Plc} {row : Row}, rowOk (L.map (lvOf G)) row → L.length = row.length ∧ ∀ (k : Nat) q s, L[k]? = some q → row[k]? = some s → Plain s ∧ s ≠ [] ∧ ∀ x, InS s x → InS (G.getD q.1.toNat []) x
  | [], [], _ => ⟨rfl, fun k q s h => by simp at h⟩
  | q :: L, s :: row, h => by
    obtain ⟨h1, h2⟩ := rowOk_at h.2
    refine ⟨by simp [h1], fun k r t hr ht => ?_⟩
    cases k with
    | zero =>
      simp at hr ht; subst hr; subst ht
      exact h.1
    | succ k => exact h2 k r t (by simpa using hr) (by simpa using ht)
  | [], _ :: _, h => h.elim
  | _ :: _, [], h => h.elim
/-- a window is in so many boxes -/
noncomputable def cntB (bs : List (List (List Sp))) (w : List Int) : Nat := by classical exact (bs.filter fun b => decide (hitM b w)).length
open Classical in
theorem boxes_tell {G : List (List Sp)} {L : List Plc} {want : List Sp} {rows : List Row} (hk : (L.map (·.1)).Nodup) (hL : ∀ q ∈ L, 0 ≤ q.1 ∧ q.1.toNat < G.length) (hG : ∀ s ∈ G, Plain s) (hT : Told want (L.map (lvOf G)) 0 rows) (w : List Int) :
    cntB (rows.map (boxOf G L)) w = if hitM G w ∧ InS want (totP L fun a => w.getD a.toNat 0) then 1 else 0 := by
  have hiff : ∀ r ∈ rows, hitM (boxOf G L r) w ↔ (hitM G w ∧ hit r (L.map (atW w))) := fun r hr => by
    obtain ⟨h1, h2⟩ := rowOk_at (hT.ok r hr)
    refine boxOf_hit L r G w hk hL h1 fun k q s hq hs => ?_
    obtain ⟨h3, _, h4⟩ := h2 k q s hq hs
    refine ⟨h3, fun x hx => ?_⟩
    have hgm : G.getD q.1.toNat [] ∈ G := by
      have := (hL q (List.mem_of_getElem? hq)).2
      rw [List.getD_eq_getElem?_getD, List.getElem?_eq_getElem this]; exact List.getElem_mem _
    exact ((hG _ hgm).mem x).2 (h4 x ((h3.mem x).1 hx))
  have hcnt : cntB (rows.map (boxOf G L)) w = (rows.filter fun r => decide (hitM G w ∧ hit r (L.map (atW w)))).length := by
    unfold cntB
    rw [List.filter_map, List.length_map]
    congr 1
    refine List.filter_congr fun r hr => ?_
    show decide _ = decide _
    rw [decide_eq_decide]
    exact hiff r hr
  rw [hcnt]
  by_cases hw : hitM G w
  · have hin : inG (L.map (lvOf G)) (L.map (atW w)) := by
      have key : ∀ L : List Plc, (∀ q ∈ L, 0 ≤ q.1 ∧ q.1.toNat < G.length) → inG (L.map (lvOf G)) (L.map (atW w)) := by
        intro L
        induction L with
        | nil => intro _; trivial
        | cons q L ih =>
          intro h
          refine ⟨?_, ih fun r hr => h r (List.mem_cons_of_mem _ hr)⟩
          have hq := (h q (List.mem_cons_self ..)).2
          have hwl := hitM_len hw
          have h1 := ((hitM_iff G w).1 hw).2 q.1.toNat _ _ (List.getElem?_eq_getElem hq) (List.getElem?_eq_getElem (by omega))
          show InS (G.getD q.1.toNat []) (w.getD q.1.toNat 0)
          rw [List.getD_eq_getElem?_getD, List.getD_eq_getElem?_getD, List.getElem?_eq_getElem hq, List.getElem?_eq_getElem (show q.1.toNat < w.length by omega)]
          exact h1.2.2
      exact key L hL
    have h1 := hT.cnt _ hin
    rw [valS_tot, Int.zero_add] at h1
    unfold cntR at h1
    have e : (rows.filter fun r => decide (hitM G w ∧ hit r (L.map (atW w)))) = rows.filter fun r => decide (hit r (L.map (atW w))) := List.filter_congr fun r _ => by
      rw [decide_eq_decide]; exact ⟨fun h => h.2, fun h => ⟨hw, h⟩⟩
    rw [e, h1]
    by_cases h2 : InS want (totP L fun a => w.getD a.toNat 0)
    · rw [if_pos h2, if_pos ⟨hw, h2⟩]
    · rw [if_neg h2, if_neg (fun h => h2 h.2)]
  · rw [if_neg (fun h => hw h.1)]
    rw [List.length_eq_zero_iff, List.filter_eq_nil_iff]
    intro r _ h
    exact hw (of_decide_eq_true h).1
end Go.Proofs.Ytpmhdjiacgckjaa
end
section
namespace Go.Proofs.Ytpmhdjiacgckjaa
set_option linter.unusedVariables false
set_option linter.unusedSimpArgs false
def exPs : List PartL := [(1, 0, 6, 0), (0, 0, 5, 6)]
def exG : List (List Sp) := [[(194, 223)], [(128, 191)]]
def exL : List Plc := [(0, [(0, 0, 5, 6)]), (1, [(1, 0, 6, 0)])]
theorem exPlcs : plcs exPs = exL := by rfl
theorem pl_one {a b : Int} (h0 : 0 ≤ a) (h1 : a ≤ b) (h2 : b ≤ 1114111) : Plain [(a, b)] := plain_one (by omega) (by omega) (by omega)
theorem ins_one {a b x : Int} : InS [(a, b)] x ↔ (a ≤ x ∧ x ≤ b) := by
  rw [InS_iff]
  constructor
  · rintro ⟨p, hp, h1, h2⟩
    obtain rfl := List.mem_singleton.1 hp
    exact ⟨h1, h2⟩
  · rintro ⟨h1, h2⟩; exact ⟨_, List.mem_cons_self .., h1, h2⟩
theorem exV0 (x : Int) : (lvOf exG (0, [(0, 0, 5, 6)])).val x = x % 32 * 64 := by
  show sumP [(0, 0, 5, 6)] x = _
  simp [sumP, pval, pw]
theorem exV1 (x : Int) : (lvOf exG (1, [(1, 0, 6, 0)])).val x = x % 64 := by
  show sumP [(1, 0, 6, 0)] x = _
  simp [sumP, pval, pw]
theorem exOk0 : LvOk (lvOf exG (0, [(0, 0, 5, 6)])) := lvOf_ok (by decide) (pl_one (by omega) (by omega) (by omega)) (by decide) (fun x hx => by
  have h := ins_one.1 (show InS [(194, 223)] x from hx); omega)
theorem exOk1 : LvOk (lvOf exG (1, [(1, 0, 6, 0)])) := lvOf_ok (by decide) (pl_one (by omega) (by omega) (by omega)) (by decide) (fun x hx => by
  have h := ins_one.1 (show InS [(128, 191)] x from hx); omega)
theorem topP_le {p : PartL} {g : List Sp} {B : Int} (hB : 0 ≤ B) (h : ∀ x, 0 ≤ x → pvalP p x ≤ B) (hb : bitsB p.2.1 p.2.2.1 p.2.2.2 = true) : topP p g ≤ B := by
  have hr : Rep (plL (ImgS p.2.1 p.2.2.1 p.2.2.2 g)) (ImgS p.2.1 p.2.2.1 p.2.2.2 g) := plL_rep (rep_all _ fun v hv => by
    obtain ⟨_, y, _, _, _, rfl⟩ := hv
    have := pval_bd hb y; omega)
  unfold topP lastI
  by_cases hc : 0 < cnt (plL (ImgS p.2.1 p.2.2.1 p.2.2.2 g))
  · obtain ⟨y, hy, hin⟩ := nthS_some hr.1 (i := cnt (plL (ImgS p.2.1 p.2.2.1 p.2.2.2 g)) - 1) (by omega) (by omega)
    rw [hy]
    obtain ⟨_, z, _, hz, _, hzv⟩ := (hr.2 y).1 hin
    have := h z hz
    unfold pvalP at this
    show y ≤ B
    omega
  · have hcz : cnt (plL (ImgS p.2.1 p.2.2.1 p.2.2.2 g)) = ((nums (plL (ImgS p.2.1 p.2.2.1 p.2.2.2 g))).length : Int) := (nums_length hr.1).symm
    have h0 : nthS (plL (ImgS p.2.1 p.2.2.1 p.2.2.2 g)) (cnt (plL (ImgS p.2.1 p.2.2.1 p.2.2.2 g)) - 1) = none ∨ ∃ y, nthS (plL (ImgS p.2.1 p.2.2.1 p.2.2.2 g)) (cnt (plL (ImgS p.2.1 p.2.2.1 p.2.2.2 g)) - 1) = some y := by
      cases nthS (plL (ImgS p.2.1 p.2.2.1 p.2.2.2 g)) (cnt (plL (ImgS p.2.1 p.2.2.1 p.2.2.2 g)) - 1) with
      | none => exact .inl rfl
      | some y => exact .inr ⟨y, rfl⟩
    have hnil : plL (ImgS p.2.1 p.2.2.1 p.2.2.2 g) = [] := by
      cases hq : plL (ImgS p.2.1 p.2.2.1 p.2.2.2 g) with
      | nil => rfl
      | cons q l =>
        have hm : q.1 ∈ nums (plL (ImgS p.2.1 p.2.2.1 p.2.2.2 g)) := by
          rw [nums_mem, InS_iff, hq]
          have hp := hr.1
          rw [hq] at hp
          exact ⟨q, List.mem_cons_self .., Int.le_refl _, hp.2.1⟩
        have := List.length_pos_of_mem hm
        omega
    rw [hnil]
    simpa [nthS, optD] using hB
theorem ind_sum (l : List Int) (P : Int → Prop) [DecidablePred P] : (l.map fun v => if P v then 1 else 0).sum = (l.filter fun v => decide (P v)).length := by
  induction l with
  | nil => rfl
  | cons x l ih =>
    rw [List.map_cons, List.sum_cons, ih, List.filter_cons]
    by_cases h : P x
    · rw [if_pos h, if_pos (by simpa using h), List.length_cons]; omega
    · rw [if_neg h, if_neg (by simpa using h)]; omega
/-- the rows of the example -/
theorem ex_rows : ∃ rows st, fromL [(128, 255)] (exL.map (lvOf exG)) 0 0 = (some rows, st) ∧ 1 ≤ rows.length ∧ rows.length ≤ 2 ∧ Told [(128, 255)] (exL.map (lvOf exG)) 0 rows := by
  have hok : lvsOk (exL.map (lvOf exG)) := by
    intro l hl
    simp only [exL, List.map_cons, List.map_nil, List.mem_cons, List.not_mem_nil, or_false] at hl
    rcases hl with rfl | rfl
    · exact exOk0
    · exact exOk1
  have ht0 : (lvOf exG (0, [(0, 0, 5, 6)])).top ≤ 1984 := by
    show ([((0, 0, 5, 6) : PartL)].map fun p => topP p [(194, 223)]).sum ≤ 1984
    rw [List.map_cons, List.map_nil, List.sum_cons, List.sum_nil]
    have := topP_le (p := (0, 0, 5, 6)) (g := [(194, 223)]) (B := 1984) (by omega) (fun x hx => by simp [pvalP, pval, pw]; omega) (by decide)
    omega
  have ht1 : (lvOf exG (1, [(1, 0, 6, 0)])).top ≤ 63 := by
    show ([((1, 0, 6, 0) : PartL)].map fun p => topP p [(128, 191)]).sum ≤ 63
    rw [List.map_cons, List.map_nil, List.sum_cons, List.sum_nil]
    have := topP_le (p := (1, 0, 6, 0)) (g := [(128, 191)]) (B := 63) (by omega) (fun x hx => by simp [pvalP, pval, pw]; omega) (by decide)
    omega
  have htt : ∀ l ∈ exL.map (lvOf exG), l.top ≤ 1073741824 := by
    intro l hl
    simp only [exL, List.map_cons, List.map_nil, List.mem_cons, List.not_mem_nil, or_false] at hl
    rcases hl with rfl | rfl <;> omega
  have hv0 : ∀ v, InS (valsOf (lvOf exG (0, [(0, 0, 5, 6)]))) v → ∃ x, 0 ≤ x ∧ x ≤ 31 ∧ v = x * 64 := fun v hv => by
    obtain ⟨x, _, hx⟩ := ((vals_rep exOk0 (by omega)).2 v).1 hv
    rw [exV0] at hx
    exact ⟨x % 32, by omega, by omega, hx.symm⟩
  have hnd : (numsL (valsOf (lvOf exG (0, [(0, 0, 5, 6)])))).Nodup := (numsL_rising (vals_rep exOk0 (by omega)).1).imp (fun h e => by omega)
  have hlen : (numsL (valsOf (lvOf exG (0, [(0, 0, 5, 6)])))).length ≤ 4096 := by
    have := nodup_le hnd (m := (List.range 4096).map (fun (k : Nat) => (k : Int))) (fun v hv => by
      obtain ⟨x, h1, h2, rfl⟩ := hv0 v ((mem_numsL _ v).1 hv)
      exact List.mem_map.2 ⟨(x * 64).toNat, List.mem_range.2 (by omega), by omega⟩)
    simpa using this
  have hT0 : 1984 ≤ (lvOf exG (0, [(0, 0, 5, 6)])).top := by
    have h := exOk0.hi 223 (ins_one.2 (by omega))
    rw [exV0] at h; omega
  have hT1 : 0 ≤ (lvOf exG (1, [(1, 0, 6, 0)])).top := by
    have h := exOk1.hi 191 (ins_one.2 (by omega))
    rw [exV1] at h; omega
  classical
  have hmeet : ∀ v, InS (valsOf (lvOf exG (0, [(0, 0, 5, 6)]))) v → meetsW [(128, 255)] (0 + v) (0 + v + topS [lvOf exG (1, [(1, 0, 6, 0)])]) → v ∈ ([128, 192] : List Int) := fun v hv hm => by
    obtain ⟨x, h1, h2, rfl⟩ := hv0 v hv
    obtain ⟨y, h3, h4, h5⟩ := hm
    have h6 := ins_one.1 h5
    simp only [topS] at h4
    have : x = 2 ∨ x = 3 := by omega
    rcases this with rfl | rfl <;> simp
  obtain ⟨rows, he, hl⟩ := goL_few (f := fun v st => fromL [(128, 255)] [lvOf exG (1, [(1, 0, 6, 0)])] (0 + v) st) (b := fun v => if meetsW [(128, 255)] (0 + v) (0 + v + topS [lvOf exG (1, [(1, 0, 6, 0)])]) then 1 else 0)
    (fun v => by show (if _ then 1 else 0) ≤ 1; split <;> omega) (choicesL (lvOf exG (0, [(0, 0, 5, 6)]))) (fun c _ st hs => fromL_last _ _ _ st (.inr ⟨_, rfl, rfl⟩) hs) [] [] 0 1 (by simp only [choicesL, List.length_map, List.length_nil]; omega) (by simp only [choicesL, List.length_map]; omega)
  have hsum : ((choicesL (lvOf exG (0, [(0, 0, 5, 6)]))).map fun c => if meetsW [(128, 255)] (0 + c.1) (0 + c.1 + topS [lvOf exG (1, [(1, 0, 6, 0)])]) then 1 else 0).sum ≤ 2 := by
    unfold choicesL
    rw [List.map_map]
    have e := ind_sum (numsL (valsOf (lvOf exG (0, [(0, 0, 5, 6)])))) (fun v => meetsW [(128, 255)] (0 + v) (0 + v + topS [lvOf exG (1, [(1, 0, 6, 0)])]))
    have h2 := nodup_le (hnd.sublist (List.filter_sublist (p := fun v => decide (meetsW [(128, 255)] (0 + v) (0 + v + topS [lvOf exG (1, [(1, 0, 6, 0)])]))))) (m := [128, 192]) (fun v hv => by
      obtain ⟨h1, h2⟩ := List.mem_filter.1 hv
      exact hmeet v ((mem_numsL _ v).1 h1) (of_decide_eq_true h2))
    refine Nat.le_trans (Nat.le_of_eq ?_) (Nat.le_trans (Nat.le_of_eq e) h2)
    rfl
  have hfrom : fromL [(128, 255)] (exL.map (lvOf exG)) 0 0 = (some rows, 1 + (choicesL (lvOf exG (0, [(0, 0, 5, 6)]))).length) := by
    show fromL [(128, 255)] [lvOf exG (0, [(0, 0, 5, 6)]), lvOf exG (1, [(1, 0, 6, 0)])] 0 0 = _
    have hT : topS [lvOf exG (0, [(0, 0, 5, 6)]), lvOf exG (1, [(1, 0, 6, 0)])] = (lvOf exG (0, [(0, 0, 5, 6)])).top + ((lvOf exG (1, [(1, 0, 6, 0)])).top + 0) := rfl
    conv => lhs; unfold fromL
    rw [if_neg (by omega), if_neg (fun h => h ⟨128, by omega, by rw [hT]; omega, ins_one.2 (by omega)⟩), if_neg (fun h => by have := ins_one.1 (h 0 (by omega) (by rw [hT]; omega)); omega), if_neg (fun h => by cases h.1), if_neg (by omega)]
    exact he
  have hTold := fromL_tells _ _ _ _ _ _ hfrom hok htt
  refine ⟨rows, _, hfrom, ?_, by simp only [List.length_nil] at hl; omega, hTold⟩
  have h1 := hTold.cnt [195, 191] ⟨ins_one.2 (by omega), ins_one.2 (by omega), trivial⟩
  have hval : valS (exL.map (lvOf exG)) [195, 191] = 255 := by
    show (lvOf exG (0, [(0, 0, 5, 6)])).val 195 + ((lvOf exG (1, [(1, 0, 6, 0)])).val 191 + 0) = 255
    rw [exV0, exV1]; decide
  rw [hval, if_pos (ins_one.2 (by omega))] at h1
  unfold cntR at h1
  cases rows with
  | nil => simp at h1
  | cons r rows => simp
end Go.Proofs.Ytpmhdjiacgckjaa
end
section
namespace Go.Proofs.Ytpmhdjiacgckjaa
open Go.RowKit
set_option linter.unusedVariables false
set_option linter.unusedSimpArgs false

theorem outer_any (b d t u s : Int) (A : Option Addr) (n c : Nat) (w : World) : Gives Try.prog 48 #[.agg #[.int .i64 b, .int .i64 d, .int .i64 t, .int .i64 u, .int .i64 s, .slice A n c]] w (.agg #[.int .i64 0, .int .i64 d, .int .i64 t, .int .i64 u]) := by
  unfold Gives
  go_enter Try.func48, Try.ntmps48
  go_wp2_with fail
  exact bodyPost_ret (v := .agg #[.int .i64 0, .int .i64 d, .int .i64 t, .int .i64 u]) (by simp [results, Try.results48, go_sem]) rfl ⟨rfl, ((Below.refl _ _).alloc (Nat.le_refl _) _).alloc (by simp) _⟩

def RiseTo (l : List PartL) (k : Nat) : Prop := ∀ (i : Nat) p q, i + 1 < k → l[i]? = some p → l[i + 1]? = some q → p.2.2.2 < q.2.2.2
theorem RiseTo.all {l : List PartL} (h : RiseTo l l.length) : Rising l := fun i p q hp hq => h i p q (List.getElem?_eq_some_iff.1 hq).1 hp hq
theorem RiseTo.one (l : List PartL) {k : Nat} (h : k ≤ 1) : RiseTo l k := fun i p q hi => by omega
theorem RiseTo.next {l : List PartL} {j : Nat} {p q : PartL} (h : RiseTo l (j + 1)) (hp : l[j]? = some p) (hq : l[j + 1]? = some q) (hl : p.2.2.2 < q.2.2.2) : RiseTo l (j + 2) := fun i a b hi ha hb => by
  by_cases e : i = j
  · subst e
    rw [hp] at ha; rw [hq] at hb
    injection ha with ha; injection hb with hb
    subst ha; subst hb
    exact hl
  · exact h i a b (by omega) ha hb
section
variable {w0 w : World} {F : World → Prop} {A : Option Addr} {l : List PartL}
/-- a block of its own in memory holds these cells -/
def BoxC (b : Nat) (cs : List Value) (W : World) : Prop := ∀ (i : Nat) v, cs[i]? = some v → W.cell? ⟨b, i, none⟩ = some v
theorem BoxC.below {b : Nat} {cs : List Value} {W W' : World} (h : BoxC b cs W) (hb : Below W.heap.size W W') : BoxC b cs W' := fun i v hv => (hb.cell (p := ⟨b, i, none⟩) (lt_of_cell (h i v hv))).trans (h i v hv)
theorem St.box (hK : Hid (St w0 w F)) (cs : List Value) (t : TypeId) : Hid (St w0 (w.alloc (.cells cs.toArray t)) (fun W => BoxC w.heap.size cs W ∧ F W)) := by
  refine Lib.hid (hK.out.add ((Below.refl _ _).alloc (Nat.le_refl _) _) fun W hW => ?_)
  have h0 : BoxC w.heap.size cs (w.alloc (.cells cs.toArray t)) := fun i v hv => by
    rw [World.cell?_alloc_new]; simpa using hv
  exact h0.below hW
theorem BoxC.c4 {b : Nat} {v0 v1 v2 v3 : Value} {W : World} (h : BoxC b [v0, v1, v2, v3] W) : W.cell? ⟨b, 0, none⟩ = some v0 ∧ W.cell? ⟨b, 1, none⟩ = some v1 ∧ W.cell? ⟨b, 2, none⟩ = some v2 ∧ W.cell? ⟨b, 3, none⟩ = some v3 :=
  ⟨h 0 _ rfl, h 1 _ rfl, h 2 _ rfl, h 3 _ rfl⟩
theorem BoxC.c3 {b : Nat} {v0 v1 v2 : Value} {W : World} (h : BoxC b [v0, v1, v2] W) : W.cell? ⟨b, 0, none⟩ = some v0 ∧ W.cell? ⟨b, 1, none⟩ = some v1 ∧ W.cell? ⟨b, 2, none⟩ = some v2 :=
  ⟨h 0 _ rfl, h 1 _ rfl, h 2 _ rfl⟩
theorem BoxC.c6 {b : Nat} {v0 v1 v2 v3 v4 v5 : Value} {W : World} (h : BoxC b [v0, v1, v2, v3, v4, v5] W) : W.cell? ⟨b, 0, none⟩ = some v0 ∧ W.cell? ⟨b, 1, none⟩ = some v1 ∧ W.cell? ⟨b, 2, none⟩ = some v2 ∧ W.cell? ⟨b, 3, none⟩ = some v3 ∧ W.cell? ⟨b, 4, none⟩ = some v4 ∧ W.cell? ⟨b, 5, none⟩ = some v5 :=
  ⟨h 0 _ rfl, h 1 _ rfl, h 2 _ rfl, h 3 _ rfl, h 4 _ rfl, h 5 _ rfl⟩

theorem rightB_eq (a d t u n : Int) : rightB a d t u n = pB (PartOk n (a, d, t, u)) := by
  rw [Bool.eq_iff_iff, pB_iff]
  simp [rightB, bitsB_iff, PartOk, BitsOk, and_assoc]
theorem PRight_st (hK : Hid (St w0 w F)) (a d t u n : Int) (v : Bool) (hv : Hid (pB (PartOk n (a, d, t, u)) = v)) : Calls Try.prog 46 #[.agg #[.int .i64 a, .int .i64 d, .int .i64 t, .int .i64 u], .int .i64 n] w (RetV w0 (.bool v) F) := by
  rw [← hv.out, ← rightB_eq]
  exact retV_gives hK (Right_any a d t u n w)

end
end Go.Proofs.Ytpmhdjiacgckjaa
end
section
namespace Go.Proofs.Ytpmhdjiacgckjaa
open Go.RowKit
set_option linter.unusedVariables false
set_option linter.unusedSimpArgs false

theorem rsmall_any (x : Int) (w : World) : Calls Try.prog 59 #[.int .i64 x] w fun e w' => e = .returned (.bool (pB (SmallN x))) ∧ w = w' := by
  by_cases h1 : -1114111 ≤ x
  · by_cases h2 : x ≤ 1114111
    · rw [pB_true (p := SmallN x) ⟨h1, h2⟩]
      go_enter Try.func59, Try.ntmps59
      go_wp2_with fail
      go_ret
      exact ⟨rfl, rfl⟩
    · rw [pB_false (p := SmallN x) (fun h => h2 h.2)]
      go_enter Try.func59, Try.ntmps59
      go_wp2_with fail
      go_ret
      exact ⟨rfl, rfl⟩
  · rw [pB_false (p := SmallN x) (fun h => h1 h.1)]
    go_enter Try.func59, Try.ntmps59
    go_wp2_with fail
    go_ret
    exact ⟨rfl, rfl⟩
theorem router_any (b d t u s : Int) (A : Option Addr) (n c : Nat) (w : World) : Gives Try.prog 42 #[.agg #[.int .i64 b, .int .i64 d, .int .i64 t, .int .i64 u, .int .i64 s, .slice A n c]] w (.agg #[.int .i64 0, .int .i64 d, .int .i64 t, .int .i64 u]) := by
  unfold Gives
  go_enter Try.func42, Try.ntmps42
  go_wp2_with fail
  exact bodyPost_ret (v := .agg #[.int .i64 0, .int .i64 d, .int .i64 t, .int .i64 u]) (by simp [results, Try.results42, go_sem]) rfl ⟨rfl, ((Below.refl _ _).alloc (Nat.le_refl _) _).alloc (by simp) _⟩
section
variable {w0 w : World} {F : World → Prop} {A : Option Addr} {l : List PartL}
theorem rBits_st (hK : Hid (St w0 w F)) (a d t u : Int) (v : Bool) (hv : Hid (pB (BitsOk d t u) = v)) : Calls Try.prog 60 #[.agg #[.int .i64 a, .int .i64 d, .int .i64 t, .int .i64 u]] w (RetV w0 (.bool v) F) := by
  have e : bitsB d t u = pB (BitsOk d t u) := by rw [Bool.eq_iff_iff, pB_iff]; exact bitsB_iff d t u
  rw [← hv.out, ← e]
  exact retV_gives hK (rBits_any a d t u w)
theorem PrRight_st (hK : Hid (St w0 w F)) (a d t u n : Int) (v : Bool) (hv : Hid (pB (PartOk n (a, d, t, u)) = v)) : Calls Try.prog 40 #[.agg #[.int .i64 a, .int .i64 d, .int .i64 t, .int .i64 u], .int .i64 n] w (RetV w0 (.bool v) F) := by
  rw [← hv.out, ← rightB_eq]
  exact retV_gives hK (rRight_any a d t u n w)
set_option maxRecDepth 100000 in
set_option maxHeartbeats 16000000 in
theorem rNumbers_st (hK : Hid (St w0 w F)) (hp : ∀ W, F W → PartsAt A l W) (b d t u s : Int) (c : Nat) (v : Bool) (hv : Hid (pB (NumsOk ⟨b, d, t, u, s, l⟩) = v)) :
    Calls Try.prog 39 #[.agg #[.int .i64 b, .int .i64 d, .int .i64 t, .int .i64 u, .int .i64 s, .slice A l.length c]] w (RetV w0 (.bool v) F) := by
  have HP := Lib.hid hp
  have HK := St.box hK [.int .i64 b, .int .i64 d, .int .i64 t, .int .i64 u, .int .i64 s, .slice A l.length c] 24
  have hln := (hp _ hK.out.now).ln
  clear hp
  by_cases a1 : SmallN b
  case neg =>
    obtain rfl := pB_f hv (fun h => a1 h.1)
    have h1 := pB_false a1
    clear a1
    go_enter Try.func39, Try.ntmps39
    go_wp2_with (go_at_call 59; refine (rsmall_any _ _).mono ?_; rintro e w' ⟨rfl, rfl⟩)
    go_ret
    exact ⟨rfl, Lib.hid (HK.out.weaken fun _ h => h.2)⟩
  have h1 := pB_true a1
  by_cases a2 : SmallN s
  case neg =>
    obtain rfl := pB_f hv (fun h => a2 h.2.1)
    have h2 := pB_false a2
    clear a1 a2
    go_enter Try.func39, Try.ntmps39
    go_wp2_with (go_at_call 59; refine (rsmall_any _ _).mono ?_; rintro e w' ⟨rfl, rfl⟩)
    go_ret
    exact ⟨rfl, Lib.hid (HK.out.weaken fun _ h => h.2)⟩
  have h2 := pB_true a2
  have HA := Lib.hid (And.intro a1 a2)
  clear a1 a2
  go_enter Try.func39, Try.ntmps39
  go_wp2_with (go_at_call 59; refine (rsmall_any _ _).mono ?_; rintro e w' ⟨rfl, rfl⟩)
  refine (retV_gives HK (router_any b d t u s A l.length c _)).mono ?_
  rintro e w1 ⟨rfl, HK1⟩
  by_cases a3 : BitsOk d t u
  case neg =>
    obtain rfl := pB_f hv (fun h => a3 h.2.2.1)
    have H3 := Lib.hid (pB_false a3)
    clear a3 h1 h2
    go_wp2_with fail
    refine (rBits_st HK1 0 d t u false H3).mono ?_
    rintro e w2 ⟨rfl, HK2⟩
    go_wp2_with fail
    go_ret
    exact ⟨rfl, Lib.hid (HK2.out.weaken fun _ h => h.2)⟩
  have H3 := Lib.hid (pB_true a3)
  have HV : Hid (pB (RiseOk l) = v) := by
    rw [← hv.out]
    exact pB_congr ⟨fun h => ⟨HA.out.1, HA.out.2, a3, h⟩, fun h => h.2.2.2⟩
  clear a3 h1 h2
  go_wp2_with fail
  refine (rBits_st HK1 0 d t u true H3).mono ?_
  rintro e w2 ⟨rfl, HK2⟩
  have hc5 := HK2.out.now.1 5 _ rfl
  by_cases h4 : ¬ l.length ≤ 4
  · obtain rfl := pB_f HV (fun h => h4 h.2)
    have h4' : (4 : Int) < l.length := by omega
    clear h4
    go_wp2_with fail
    go_ret
    exact ⟨rfl, Lib.hid (HK2.out.weaken fun _ h => h.2)⟩
  have h4 := Classical.not_not.1 h4
  go_wp2_with fail
  go_loopw [3] (fun i wr => ∃ k : Nat, (k ≤ l.length ∨ k = 1) ∧ 1 ≤ k ∧ i = .int .i64 k ∧ Hid (RiseTo l k) ∧ Hid (St w0 wr (fun W => BoxC w.heap.size [.int .i64 b, .int .i64 d, .int .i64 t, .int .i64 u, .int .i64 s, .slice A l.length c] W ∧ F W))) (fun i _ => l.length - (intOf i).toNat)
  case atStart => exact ⟨1, .inr rfl, Nat.le_refl _, rfl, Lib.hid (RiseTo.one l (by omega)), HK2⟩
  case round =>
  clear hc5
  obtain ⟨k, hk, hk1, rfl, HR, HK⟩ := hrel
  by_cases hlt : k < l.length
  · obtain ⟨j, rfl⟩ : ∃ j, k = j + 1 := ⟨k - 1, by omega⟩
    obtain ⟨pb, off, p, hA, hx, hw, hd0, hd1, hd2, hd3⟩ := (HP.out _ HK.out.now.2).at_ hlt
    obtain ⟨b', off', q, hB, hq, _, he0, he1, he2, he3⟩ := (HP.out _ HK.out.now.2).at_ (j := j) (by omega)
    have hc5 := HK.out.now.1 5 _ rfl
    rw [hA] at hB hc5
    injection hB with hB
    injection hB with hA1 hA2
    subst hA1; subst hA2
    have HX := Lib.hid hx
    have HQ := Lib.hid hq
    have hs : IntKind.i64.wrap (((j + 1 : Nat) : Int) - 1) = (j : Int) := by rw [Int.natCast_add, Int.natCast_one, Int.add_sub_cancel]; exact IntWalk.i64_in _ (by omega)
    have hj0 : (0 : Int) ≤ ((j + 1 : Nat) : Int) := by omega
    have hj1 : ((j + 1 : Nat) : Int) < (l.length : Int) := by omega
    have hj2 : (0 : Int) ≤ (j : Int) := by omega
    have hj3 : (j : Int) < (l.length : Int) := by omega
    clear hx hq hw hd0 hd1 hd2 he0 he1 he2 hk hA
    by_cases hl : p.2.2.2 ≤ q.2.2.2
    · obtain rfl := pB_f HV (fun h => by have := h.1 j q p HQ.out HX.out; omega)
      go_wp2_with (go_quiet (fail))
      go_ret
      exact ⟨rfl, Lib.hid ((St.hdrewN HK _).out.weaken fun _ h => h.2)⟩
    · have HN := Lib.hid (RiseTo.next HR.out HQ.out HX.out (by omega))
      go_wp2_with (go_quiet (fail))
      exact ⟨⟨j + 2, .inl (by omega), by omega, by go_num, HN, St.hdrewN HK _⟩, by simp [intOf]; omega⟩
  · have HA2 : Hid (RiseOk l) := Lib.hid ⟨fun i p q hp hq => by
      have := (List.getElem?_eq_some_iff.1 hq).1
      exact HR.out i p q (by omega) hp hq, h4⟩
    have hc5 := HK.out.now.1 5 _ rfl
    obtain rfl := pB_t HV HA2.out
    have hlt' : ¬ (k : Int) < l.length := by omega
    clear hlt
    go_wp2_with fail
    go_ret
    exact ⟨rfl, Lib.hid (HK.out.weaken fun _ h => h.2)⟩
end
end Go.Proofs.Ytpmhdjiacgckjaa
end
section
namespace Go.Proofs.Ytpmhdjiacgckjaa
open Go.RowKit
set_option linter.unusedVariables false
set_option linter.unusedSimpArgs false
def BoxOk (n : Int) (t : TermL) : Prop := n ≤ 4 ∧ TermOk n t
section
variable {w0 w : World} {F : World → Prop} {A : Option Addr} {l : List PartL}
set_option maxRecDepth 100000 in
set_option maxHeartbeats 16000000 in
theorem lright_st (hK : Hid (St w0 w F)) (hp : ∀ W, F W → PartsAt A l W) (b d t u s : Int) (c : Nat) (n : Int) (v : Bool) (hv : Hid (pB (BoxOk n ⟨b, d, t, u, s, l⟩) = v)) :
    Calls Try.prog 11 #[.agg #[.int .i64 b, .int .i64 d, .int .i64 t, .int .i64 u, .int .i64 s, .slice A l.length c], .int .i64 n] w (RetV w0 (.bool v) F) := by
  have hln := (hp _ hK.out.now).ln
  have HP := Lib.hid hp
  have HK := St.box hK [.int .i64 b, .int .i64 d, .int .i64 t, .int .i64 u, .int .i64 s, .slice A l.length c] 24
  clear hp
  obtain ⟨q0, q1, q2, q3, q4, q5⟩ := HK.out.now.1.c6
  go_enter Try.func11, Try.ntmps11
  by_cases h4 : 4 < n
  · obtain rfl := pB_f hv (fun h => by have := h.1; omega)
    go_wp2_with fail
    go_ret
    exact ⟨rfl, Lib.hid (HK.out.weaken fun _ h => h.2)⟩
  have h4' : decide (4 < n) = false := by rw [decide_eq_false_iff_not]; exact h4
  by_cases a1 : NumsOk ⟨b, d, t, u, s, l⟩
  case neg =>
    obtain rfl := pB_f hv (fun h => a1 h.2.1)
    have H1 := Lib.hid (pB_false a1)
    clear a1
    go_wp2_with (go_at_call 39; refine (rNumbers_st HK (fun _ h => HP.out _ h.2) b d t u s c false H1).mono ?_; rintro e w3 ⟨rfl, HK3⟩)
    go_ret
    exact ⟨rfl, Lib.hid (HK3.out.weaken fun _ h => h.2)⟩
  have H1 := Lib.hid (pB_true a1)
  have HA := Lib.hid a1
  clear a1
  go_wp2_with (go_at_call 39; refine (rNumbers_st HK (fun _ h => HP.out _ h.2) b d t u s c true H1).mono ?_; rintro e w3 ⟨rfl, HK3⟩)
  clear q0 q1 q2 q3 q4 q5
  have HN4 := Lib.hid h4
  clear h4 h4'
  go_loopw [5] (fun i wr => ∃ k : Nat, k ≤ l.length ∧ i = .int .i64 k ∧ Hid (∀ p ∈ l.take k, PartOk n p) ∧ Hid (St w0 wr (fun W => BoxC w.heap.size [.int .i64 b, .int .i64 d, .int .i64 t, .int .i64 u, .int .i64 s, .slice A l.length c] W ∧ F W))) (fun i _ => l.length - (intOf i).toNat)
  case atStart => exact ⟨0, Nat.zero_le _, rfl, Lib.hid (fun p hp => by simp at hp), HK3⟩
  case round =>
  obtain ⟨k, hk, rfl, HR, HK⟩ := hrel
  have hc5 := HK.out.now.1 5 _ rfl
  by_cases hlt : k < l.length
  · obtain ⟨pb, off, p, hA, hx, hw, hd0, hd1, hd2, hd3⟩ := (HP.out _ HK.out.now.2).at_ hlt
    obtain ⟨x1, x2, x3, x4⟩ := p
    simp only at hd0 hd1 hd2 hd3
    rw [hA] at hc5
    have HX := Lib.hid hx
    clear hx hw hA
    by_cases a2 : PartOk n (x1, x2, x3, x4)
    · have H2 := Lib.hid (pB_true a2)
      have HN : Hid (∀ p ∈ l.take (k + 1), PartOk n p) := Lib.hid fun q hq => by
        rw [take_snoc? HX.out] at hq
        rcases List.mem_append.1 hq with hq | hq
        · exact HR.out q hq
        · simp at hq; subst hq; exact a2
      clear a2
      go_wp2_with (go_at_call 40; refine (PrRight_st HK x1 x2 x3 x4 n true H2).mono ?_; rintro e w5 ⟨rfl, HK⟩)
      exact ⟨⟨k + 1, by omega, by go_num, HN, HK⟩, by simp [intOf]; omega⟩
    · have H2 := Lib.hid (pB_false a2)
      obtain rfl := pB_f hv (fun h => a2 (h.2.2 _ (List.mem_of_getElem? HX.out)))
      clear a2
      go_wp2_with (go_at_call 40; refine (PrRight_st HK x1 x2 x3 x4 n false H2).mono ?_; rintro e w5 ⟨rfl, HK⟩)
      go_ret
      exact ⟨rfl, Lib.hid (HK.out.weaken fun _ h => h.2)⟩
  · obtain rfl : k = l.length := by omega
    have hd : decide (l.length < l.length) = false := by simp
    obtain rfl := pB_t hv ⟨by have := HN4.out; omega, HA.out, by have := HR.out; rwa [List.take_length] at this⟩
    go_wp2_with fail
    go_ret
    exact ⟨rfl, Lib.hid (HK.out.weaken fun _ h => h.2)⟩
end
end Go.Proofs.Ytpmhdjiacgckjaa
end
section
namespace Go.Proofs.Ytpmhdjiacgckjaa
set_option linter.unusedVariables false
set_option linter.unusedSimpArgs false
/-- a guard's symbols -/
noncomputable def symG (g : List Sp) : List Sp := plL fun x => Mem g x ∧ Mem [(0, 1114111)] x
theorem symG_rep (g : List Sp) : Rep (symG g) (fun x => Mem g x ∧ Mem [(0, 1114111)] x) := meet_rep g _
/-- the wanted inner values -/
noncomputable def wantB (b d t u s : Int) (gl : List Sp) : List Sp :=
  plL fun x => -1073741824 ≤ x ∧ x ≤ 1073741824 ∧ Mem (plL (PreS d t u [(0, 1114111)] (plL fun y => -1073741824 ≤ y ∧ y ≤ 1073741824 ∧ Mem gl (y - -b)))) (x - -s)
open Classical in
noncomputable def boxesR (t : TermL) (Gs : List (List Sp)) (gl : List Sp) : Int × List (List (List Sp)) :=
  if ¬ BoxOk Gs.length t then (1, []) else if ∃ g ∈ Gs, symG g = [] then (0, []) else
    match (fromL (wantB t.base t.drop t.take t.up t.sum gl) ((plcs t.parts).map (lvOf (Gs.map symG))) 0 0).1 with
    | none => (4, [])
    | some rows => if 4096 < rows.length then (4, []) else (0, rows.map (boxOf (Gs.map symG) (plcs t.parts)))
theorem symG_sub {g : List Sp} (hp : Plain g) (h : ∀ x, InS g x → 0 ≤ x ∧ x ≤ 1114111) : symG g = g := plL_eq ⟨hp, fun x => by
  constructor
  · intro hx
    have := h x hx
    exact ⟨(hp.mem x).2 hx, by omega, by omega, ins_one.2 ⟨by omega, by omega⟩⟩
  · intro hx; exact hx.1.2.2⟩
theorem exSym : exG.map symG = exG := by
  show [symG [(194, 223)], symG [(128, 191)]] = _
  rw [symG_sub (pl_one (by omega) (by omega) (by omega)) (fun x hx => by have := ins_one.1 hx; omega), symG_sub (pl_one (by omega) (by omega) (by omega)) (fun x hx => by have := ins_one.1 hx; omega)]
  rfl
theorem exWant : wantB 0 0 21 0 0 [(128, 255)] = [(128, 255)] := by
  have hP : Plain [((128 : Int), (255 : Int))] := pl_one (by omega) (by omega) (by omega)
  have h1 : (plL fun y => -1073741824 ≤ y ∧ y ≤ 1073741824 ∧ Mem [(128, 255)] (y - -0)) = [(128, 255)] := plL_eq ⟨hP, fun x => by
    rw [ins_one]
    constructor
    · intro h; exact ⟨by omega, by omega, by omega, by omega, ins_one.2 (by omega)⟩
    · rintro ⟨_, _, _, _, h⟩; have := ins_one.1 h; omega⟩
  have h2 : plL (PreS 0 21 0 [(0, 1114111)] [(128, 255)]) = [(128, 255)] := plL_eq ⟨hP, fun x => by
    rw [ins_one]
    constructor
    · intro h
      have hv : pval 0 21 0 x = x := by simp [pval, pw]; omega
      exact ⟨by decide, ⟨by omega, by omega, ins_one.2 (by omega)⟩, by omega, by omega, by rw [hv]; exact ⟨by omega, by omega, ins_one.2 h⟩⟩
    · rintro ⟨_, _, h0, h3, h⟩
      have hv : pval 0 21 0 x = x := by simp [pval, pw]; omega
      rw [hv] at h
      exact ins_one.1 h.2.2⟩
  unfold wantB
  rw [h1, h2, h1]
theorem ex_ok : BoxOk (exG.length : Int) ⟨0, 0, 21, 0, 0, exPs⟩ := by
  refine ⟨by decide, ⟨⟨by decide, by decide⟩, ⟨by decide, by decide⟩, by unfold BitsOk; decide, ?_, by decide⟩, fun p hp => ?_⟩
  · intro i p q hp hq
    rcases i with _ | i
    · simp [exPs] at hp hq; subst hp; subst hq; decide
    · simp [exPs] at hq
  · simp only [exPs, List.mem_cons, List.not_mem_nil, or_false] at hp
    rcases hp with rfl | rfl <;> (unfold PartOk BitsOk; decide)
theorem ex_boxes : ∃ B, boxesR ⟨0, 0, 21, 0, 0, exPs⟩ exG [(128, 255)] = (0, B) ∧ 1 ≤ B.length ∧ B.length ≤ 2 ∧ cntB B [195, 191] = 1 ∧ cntB B [196, 128] = 0 := by
  obtain ⟨rows, st, hf, h1, h2, hT⟩ := ex_rows
  have hbt := fun w => boxes_tell (G := exG) (L := exL) (want := [(128, 255)]) (rows := rows) (by decide) (by decide) (fun s hs => by
    simp only [exG, List.mem_cons, List.not_mem_nil, or_false] at hs
    rcases hs with rfl | rfl
    · exact pl_one (by omega) (by omega) (by omega)
    · exact pl_one (by omega) (by omega) (by omega)) hT w
  refine ⟨rows.map (boxOf exG exL), ?_, by rw [List.length_map]; exact h1, by rw [List.length_map]; exact h2, ?_, ?_⟩
  · unfold boxesR
    have hOk : BoxOk (exG.length : Int) ⟨0, 0, 21, 0, 0, exPs⟩ := ex_ok
    rw [if_neg (fun h => h hOk), if_neg (by
      rintro ⟨g, hg, hn⟩
      have hm : symG g ∈ exG.map symG := List.mem_map.2 ⟨g, hg, rfl⟩
      rw [exSym, hn] at hm
      revert hm; decide)]
    simp only [exSym, exWant, exPlcs, hf]
    rw [if_neg (by omega)]
  · rw [hbt, if_pos]
    have hm : hitM exG [195, 191] := ⟨⟨by omega, by omega, ins_one.2 (by omega)⟩, ⟨by omega, by omega, ins_one.2 (by omega)⟩, trivial⟩
    refine ⟨hm, ?_⟩
    have e : totP exL (fun a => ([195, 191] : List Int).getD a.toNat 0) = 255 := by decide
    rw [e]; exact ins_one.2 (by omega)
  · rw [hbt, if_neg]
    rintro ⟨_, h⟩
    have e : totP exL (fun a => ([196, 128] : List Int).getD a.toNat 0) = 256 := by decide
    rw [e] at h
    have := ins_one.1 h; omega
end Go.Proofs.Ytpmhdjiacgckjaa
end
