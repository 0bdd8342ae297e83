/- Contracts of term.Image and term.Fits. Condition: the parts and the guards are known, there are four guards at most. Contracts of desc.state, head, writes and rule. Condition: what is at hand is known. Contract of table's (*maker).has: whether the first guards have classes. Condition: the guards and the classes' least numbers are known. Contracts of slices.Clone at several types: a row of the call's own that reads as the one that came in. Condition: the row is not too long. Contract of table.own: terms in memory of the call's own. Condition: the terms are known, they are few. Words for table's maker in memory: its cells, the rows and maps that it fills; what a step may write. Condition: none. Contract of table's (*maker).node: a place's number; it is laid if it was not there. Condition: the maker is known. Contract of table's (*maker).act: a rule's number as an act; it is laid if it was not there. Condition: the maker is known. Contract of desc.rule. Condition: the rule is known. -/
import Derived.Test.YtlmkokeapbleoaaGreatT07
import Derived.Test.YtlmkokeapbleoaaGreatT06
import Derived.Test.YtlmkokeapbleoaaGreatT05
import Derived.Lib.MinMax
import Derived.Deep.RegionHeld3
import Derived.Deep.DeepCutAuto
import Derived.Test.YtlmkokeapbleoaaGreatT04
import Derived.Deep.OwnRows
set_option maxRecDepth 100000
set_option maxHeartbeats 64000000
set_option linter.unusedVariables false
set_option linter.unusedSimpArgs false
section
namespace Go.Proofs.YtlmkokeapbleoaaGreat
open Go.RowKit
theorem outS_iff {t : TermL} (hn : NumsOk t) {gs : List (List Sp)} {r r3 : List Sp} (hr : Rep r (InnS t gs)) (hok : InRange t gs) (h3 : Rep r3 (ImgS t.drop t.take t.up r)) (y : Int) :
    OutS t gs y ↔ (-1073741824 ≤ y ∧ y ≤ 1073741824 ∧ Mem r3 (y - t.base)) := by
  rw [h3.mem]
  constructor
  · intro h
    have hb := outS_bd hn h
    obtain ⟨w, hw, rfl⟩ := h
    refine ⟨hb.1, hb.2, bitsOk_b hn.2.2.1, innerT t w, (hr.mem _).2 ⟨w, hw, rfl⟩, ?_⟩
    have := hok _ ⟨w, hw, rfl⟩
    exact ⟨by omega, by omega, by omega⟩
  · rintro ⟨_, _, _, x, hx, _, _, hv⟩
    obtain ⟨w, hw, rfl⟩ := (hr.mem x).1 hx
    exact ⟨w, hw, by omega⟩
section
variable {w0 w : World} {F : World → Prop}
theorem tImage_st (hK : Hid (St w0 w F)) {A : Option Addr} {l : List PartL} (hp : ∀ W, F W → PartsAt A l W) (b d t u s : Int) (c : Nat) {B : Option Addr} {O : List (Item Sp)} (hb : ∀ W, F W → LLx B O W) (cb : Nat)
    (h4 : O.length ≤ 4) (hn : Hid (NumsOk ⟨b, d, t, u, s, l⟩)) (hpo : Hid (∀ p ∈ l, PartOk O.length p)) (r2 : List Sp) (hr2 : Hid (Rep r2 (OutS ⟨b, d, t, u, s, l⟩ (bodies O)))) (ok : Bool) (hok : Hid (pB (InRange ⟨b, d, t, u, s, l⟩ (bodies O)) = ok)) (hst : StageP l) :
    Calls Tryz.prog 211 #[.agg #[.int .i64 b, .int .i64 d, .int .i64 t, .int .i64 u, .int .i64 s, .slice A l.length c], .slice B O.length cb] w (fun e w' => if ok = true then RetLB2 w0 r2 true F e w' else RetLB2 w0 [] false F e w') := by
  have HP := Lib.hid hp
  have HB := Lib.hid hb
  have HK := St.box hK [.int .i64 b, .int .i64 d, .int .i64 t, .int .i64 u, .int .i64 s, .slice A l.length c] 68
  obtain ⟨q0, q1, q2, q3, q4, q5⟩ := HK.out.now.1.c6
  obtain ⟨r, hr⟩ := rep_inn hn.out (bodies O)
  clear hp hb
  go_enter Tryz.func211, Tryz.ntmps211
  go_wp2_with fail
  refine (inner_st HK (fun _ h => HP.out _ h.2) b d t u s c (fun _ h => HB.out _ h.2) cb h4 hn hpo r hr ok hok hst).mono ?_
  rintro e w1 ⟨A1, c1, rfl, HK1⟩
  clear q0 q1 q2 q3 q4 q5 HK
  rcases ok with _ | _
  · go_wp2_with fail
    go_ret2
    exact ⟨none, 0, rfl, Lib.hid (HK1.out.weaken fun W h => ⟨lst_nil W, h.2.2⟩)⟩
  have HRG : Hid (InRange ⟨b, d, t, u, s, l⟩ (bodies O)) := Lib.hid (pB_iff.1 hok.out)
  by_cases hre : r = []
  · subst hre
    have h0 : Rep [] (OutS ⟨b, d, t, u, s, l⟩ (bodies O)) := ⟨by simp [Plain, PlainF], fun y => by
      simp only [InS, false_iff]
      rintro ⟨w, hw, _⟩
      exact rep_nil hr.out _ ⟨w, hw, rfl⟩⟩
    obtain rfl := Rep.unique hr2.out h0 (fun _ => Iff.rfl)
    go_wp2_with fail
    go_ret2
    exact ⟨none, 0, rfl, Lib.hid (HK1.out.weaken fun W h => ⟨lst_nil W, h.2.2⟩)⟩
  have hrl : ((r.length : Int) == 0) = false := by
    rw [beq_eq_false_iff_ne]
    intro h
    exact hre (List.eq_nil_of_length_eq_zero (by omega))
  obtain ⟨r3, HR3⟩ := rep_img d t u r
  have HR4 : Hid (Rep r2 (fun y => -1073741824 ≤ y ∧ y ≤ 1073741824 ∧ Mem r3 (y - b))) := Lib.hid (hr2.out.congr fun y => outS_iff hn.out hr.out HRG.out HR3.out y)
  clear hre
  go_wp2_with fail
  have HK2 := St.hdrewN HK1 1
  go_region_held3 (fun W => W.cell? ⟨w.heap.size, 0, none⟩ = some (.int .i64 b) ∧ W.cell? ⟨w.heap.size, 1, none⟩ = some (.int .i64 d) ∧ W.cell? ⟨w.heap.size, 2, none⟩ = some (.int .i64 t) ∧ W.cell? ⟨w.heap.size, 3, none⟩ = some (.int .i64 u) ∧ W.cell? ⟨w.heap.size, 4, none⟩ = some (.int .i64 s) ∧ W.cell? ⟨w.heap.size, 5, none⟩ = some (.slice A l.length c))
    (first | exact HK5.out.now.2.2.2.1.c6 | exact HK4.out.now.2.2.1.c6 | exact HK3.out.now.2.1.c6 | exact HK2.out.now.2.1.c6 | go_keep)
    ((first
      | (go_at_call 185; refine (retV_gives HK2 (outer_any b d t u s A l.length c _)).mono ?_; rintro e3 w3 ⟨rfl, HK3⟩)
      | (go_at_call 230; refine (Image_st HK3 (fun _ h => h.1) c1 0 d t u HR3).mono ?_; rintro e4 w4 ⟨A4, c4, rfl, HK4⟩)
      | (go_at_call 229; refine (Move_st HK4 (fun _ h => h.1) c4 HR4).mono ?_; rintro e5 w5 ⟨A5, c5, rfl, HK5⟩)))
  go_wp2_with fail
  go_ret2
  exact ⟨A5, c5, rfl, Lib.hid (HK5.out.weaken fun W h => ⟨h.1, h.2.2.2.2⟩)⟩
theorem Fits_st (hK : Hid (St w0 w F)) {A : Option Addr} {l : List PartL} (hp : ∀ W, F W → PartsAt A l W) (b d t u s : Int) (c : Nat) (i o : Int) {B : Option Addr} {O : List (Item Sp)} (hb : ∀ W, F W → LLx B O W) (cb : Nat)
    (h4 : O.length ≤ 4) (v : Bool) (hv : Hid (pB (FitsP i o (bodies O) ⟨b, d, t, u, s, l⟩) = v)) (hst : StageP l) :
    Calls Tryz.prog 190 #[.agg #[.int .i64 b, .int .i64 d, .int .i64 t, .int .i64 u, .int .i64 s, .slice A l.length c], .int .i64 i, .int .i64 o, .slice B O.length cb] w (RetV w0 (.bool v) F) := by
  have HP := Lib.hid hp
  have HB := Lib.hid hb
  have HK := St.box hK [.int .i64 b, .int .i64 d, .int .i64 t, .int .i64 u, .int .i64 s, .slice A l.length c] 68
  obtain ⟨q0, q1, q2, q3, q4, q5⟩ := HK.out.now.1.c6
  have hbl : (bodies O).length = O.length := bodies_length O
  clear hp hb
  by_cases a1 : TermRt i o O.length ⟨b, d, t, u, s, l⟩
  case neg =>
    obtain rfl := pB_f hv (fun h => a1 (by have := h.1; rwa [hbl] at this))
    have H1 := Lib.hid (pB_false a1)
    clear a1 hbl
    go_enter Tryz.func190, Tryz.ntmps190
    go_wp2_with fail
    refine (tRightG_st HK (fun _ h => HP.out _ h.2) b d t u s c i o O.length false H1).mono ?_
    rintro e w1 ⟨rfl, HK1⟩
    go_wp2_with fail
    go_ret
    exact ⟨rfl, Lib.hid (HK1.out.weaken fun _ h => h.2)⟩
  have H1 := Lib.hid (pB_true a1)
  have HN : Hid (NumsOk ⟨b, d, t, u, s, l⟩) := Lib.hid a1.2.2.1
  have HPO : Hid (∀ p ∈ l, PartOk O.length p) := Lib.hid fun p hp => (a1.2.2.2.1 p hp).1
  have HF : Hid (pB (InRange ⟨b, d, t, u, s, l⟩ (bodies O) ∧ ∀ y, OutS ⟨b, d, t, u, s, l⟩ (bodies O) y → InD o y) = v) := by
    unfold Hid
    rw [← hv.out]
    exact (pB_congr (fits_iff (by rw [hbl]; exact a1))).symm
  obtain ⟨ok, hok⟩ : ∃ ok, Hid (pB (InRange ⟨b, d, t, u, s, l⟩ (bodies O)) = ok) := ⟨_, rfl⟩
  obtain ⟨r2, hr2⟩ : ∃ r, Hid (Rep r (OutS ⟨b, d, t, u, s, l⟩ (bodies O))) := rep_all _ fun y h => outS_bd HN.out h
  clear a1 hbl
  go_enter Tryz.func190, Tryz.ntmps190
  go_wp2_with fail
  refine (tRightG_st HK (fun _ h => HP.out _ h.2) b d t u s c i o O.length true H1).mono ?_
  rintro e w1 ⟨rfl, HK1⟩
  clear q0 q1 q2 q3 q4 q5
  obtain ⟨q0, q1, q2, q3, q4, q5⟩ := HK1.out.now.1.c6
  go_wp2_with fail
  refine (tImage_st HK1 (fun _ h => HP.out _ h.2) b d t u s c (fun _ h => HB.out _ h.2) cb h4 HN HPO r2 hr2 ok hok hst).mono ?_
  intro e w2 hret
  rcases ok with _ | _
  · obtain rfl := pB_f HF (fun h => by have := pB_true h.1; rw [hok.out] at this; cases this)
    obtain ⟨A2, c2, rfl, HK2⟩ := hret
    go_wp2_with fail
    go_ret
    exact ⟨rfl, Lib.hid (HK2.out.weaken fun W h => h.2.2)⟩
  · obtain ⟨A2, c2, rfl, HK2⟩ := hret
    have HW : Hid (pB (∀ x, Mem r2 x → Mem (domL o) x) = v) := by
      unfold Hid
      rw [← HF.out]
      refine pB_congr ⟨fun h => ⟨pB_iff.1 hok.out, fun y hy => (inD_mem o y).1 (h y ((hr2.out.mem y).2 hy))⟩, fun h x hx => (inD_mem o x).2 (h.2 x ((hr2.out.mem x).1 hx))⟩
    go_wp2_with fail
    refine (DomX_st HK2 o).mono ?_
    rintro e w3 ⟨A3, c3, rfl, HK3⟩
    go_wp2_with fail
    refine (Within_p HK3 (fun _ h => h.2.1) (fun _ h => h.1) c2 c3 v HW).mono ?_
    rintro e w4 ⟨rfl, HK4⟩
    go_wp2_with fail
    go_ret
    exact ⟨rfl, Lib.hid (HK4.out.weaken fun W h => h.2.2.2)⟩
end
end Go.Proofs.YtlmkokeapbleoaaGreat
end
section
namespace Go.Proofs.YtlmkokeapbleoaaGreat
open Go.RowKit
section
variable {w0 w : World} {F : World → Prop}
theorem state_st (hK : Hid (St w0 w F)) (i o n s : Int) (ra fa : Option Addr) (rl rc fl fc : Nat) (x : Int) (v : Bool) (hv : Hid (pB (StateOk n x) = v)) :
    Calls Tryz.prog 151 #[.agg #[.int .i64 i, .int .i64 o, .int .i64 n, .int .i64 s, .slice ra rl rc, .slice fa fl fc], .int .i64 x] w (RetV w0 (.bool v) F) := by
  have HK := St.box hK [.int .i64 i, .int .i64 o, .int .i64 n, .int .i64 s, .slice ra rl rc, .slice fa fl fc] 26
  by_cases h1 : 0 ≤ x
  case neg =>
    obtain rfl := pB_f hv (fun h => h1 h.1)
    go_enter Tryz.func151, Tryz.ntmps151
    go_wp2_with fail
    go_ret
    exact ⟨rfl, Lib.hid (HK.out.weaken fun _ h => h.2)⟩
  by_cases h2 : x < n
  case neg =>
    obtain rfl := pB_f hv (fun h => h2 h.2)
    go_enter Tryz.func151, Tryz.ntmps151
    go_wp2_with fail
    go_ret
    exact ⟨rfl, Lib.hid (HK.out.weaken fun _ h => h.2)⟩
  obtain rfl := pB_t hv ⟨h1, h2⟩
  go_enter Tryz.func151, Tryz.ntmps151
  go_wp2_with fail
  go_ret
  exact ⟨rfl, Lib.hid (HK.out.weaken fun _ h => h.2)⟩
theorem dom_pos {s : Int} (h : SortOk s) : decide (0 < (domL s).length) = true := by
  rcases h with rfl | rfl <;> rfl
theorem dom_zero {s : Int} (h : ¬ SortOk s) : decide (0 < (domL s).length) = false := by
  rw [(domL_nil s).2 h]; rfl
def HeadP (i o n s : Int) (rl fl : Nat) : Prop := SortOk i ∧ SortOk o ∧ 1 ≤ n ∧ n ≤ 1024 ∧ StateOk n s ∧ rl ≤ 4096 ∧ fl ≤ 4096
theorem head_st (hK : Hid (St w0 w F)) (i o n s : Int) (ra fa : Option Addr) (rl rc fl fc : Nat) (v : Bool) (hv : Hid (pB (HeadP i o n s rl fl) = v)) :
    Calls Tryz.prog 149 #[.agg #[.int .i64 i, .int .i64 o, .int .i64 n, .int .i64 s, .slice ra rl rc, .slice fa fl fc]] w (RetV w0 (.bool v) F) := by
  have HK := St.box hK [.int .i64 i, .int .i64 o, .int .i64 n, .int .i64 s, .slice ra rl rc, .slice fa fl fc] 26
  by_cases s1 : SortOk i
  case neg =>
    have h1 := dom_zero s1
    obtain rfl := pB_f hv (fun h => s1 h.1)
    clear s1
    go_enter Tryz.func149, Tryz.ntmps149
    go_wp2_with fail
    refine (DomX_st HK i).mono ?_
    rintro e w1 ⟨A1, c1, rfl, HK1⟩
    go_wp2_with fail
    go_ret
    exact ⟨rfl, Lib.hid (HK1.out.weaken fun _ h => h.2.2)⟩
  have h1 := dom_pos s1
  by_cases s2 : SortOk o
  case neg =>
    have h2 := dom_zero s2
    obtain rfl := pB_f hv (fun h => s2 h.2.1)
    clear s1 s2
    go_enter Tryz.func149, Tryz.ntmps149
    go_wp2_with fail
    refine (DomX_st HK i).mono ?_
    rintro e w1 ⟨A1, c1, rfl, HK1⟩
    obtain ⟨q0, q1, q2, q3, q4, q5⟩ := HK1.out.now.2.1.c6
    go_wp2_with fail
    refine (DomX_st HK1 o).mono ?_
    rintro e w2 ⟨A2, c2, rfl, HK2⟩
    go_wp2_with fail
    go_ret
    exact ⟨rfl, Lib.hid (HK2.out.weaken fun _ h => h.2.2.2)⟩
  have h2 := dom_pos s2
  have HS := Lib.hid (And.intro s1 s2)
  clear s1 s2
  go_enter Tryz.func149, Tryz.ntmps149
  go_wp2_with fail
  refine (DomX_st HK i).mono ?_
  rintro e w1 ⟨A1, c1, rfl, HK1⟩
  obtain ⟨q0, q1, q2, q3, q4, q5⟩ := HK1.out.now.2.1.c6
  go_wp2_with fail
  refine (DomX_st HK1 o).mono ?_
  rintro e w2 ⟨A2, c2, rfl, HK2⟩
  have HK2 : Hid (St w0 w2 (fun W => BoxC w.heap.size [.int .i64 i, .int .i64 o, .int .i64 n, .int .i64 s, .slice ra rl rc, .slice fa fl fc] W ∧ F W)) := Lib.hid (HK2.out.weaken fun _ h => h.2.2)
  clear q0 q1 q2 q3 q4 q5 HK HK1
  obtain ⟨q0, q1, q2, q3, q4, q5⟩ := HK2.out.now.1.c6
  by_cases n1 : 1 ≤ n
  case neg =>
    obtain rfl := pB_f hv (fun h => n1 h.2.2.1)
    go_wp2_with fail
    go_ret
    exact ⟨rfl, Lib.hid (HK2.out.weaken fun _ h => h.2)⟩
  by_cases n2 : n ≤ 1024
  case neg =>
    obtain rfl := pB_f hv (fun h => n2 h.2.2.2.1)
    go_wp2_with fail
    go_ret
    exact ⟨rfl, Lib.hid (HK2.out.weaken fun _ h => h.2)⟩
  by_cases st : StateOk n s
  case neg =>
    obtain rfl := pB_f hv (fun h => st h.2.2.2.2.1)
    have H1 := Lib.hid (pB_false st)
    clear st
    go_wp2_with fail
    refine (state_st HK2 i o n s ra fa rl rc fl fc s false H1).mono ?_
    rintro e w3 ⟨rfl, HK3⟩
    go_wp2_with fail
    go_ret
    exact ⟨rfl, Lib.hid (HK3.out.weaken fun _ h => h.2)⟩
  have H1 := Lib.hid (pB_true st)
  have HST := Lib.hid st
  clear st
  go_wp2_with fail
  refine (state_st HK2 i o n s ra fa rl rc fl fc s true H1).mono ?_
  rintro e w3 ⟨rfl, HK3⟩
  clear q0 q1 q2 q3 q4 q5
  obtain ⟨q0, q1, q2, q3, q4, q5⟩ := HK3.out.now.1.c6
  by_cases r1 : (rl : Int) ≤ 4096
  case neg =>
    obtain rfl := pB_f hv (fun h => r1 (by have := h.2.2.2.2.2.1; omega))
    go_wp2_with fail
    go_ret
    exact ⟨rfl, Lib.hid (HK3.out.weaken fun _ h => h.2)⟩
  by_cases f1 : (fl : Int) ≤ 4096
  case neg =>
    obtain rfl := pB_f hv (fun h => f1 (by have := h.2.2.2.2.2.2; omega))
    have f1' : decide ((fl : Int) ≤ 4096) = false := by simpa using f1
    go_wp2_with fail
    go_ret
    exact ⟨rfl, Lib.hid (HK3.out.weaken fun _ h => h.2)⟩
  obtain rfl := pB_t hv ⟨HS.out.1, HS.out.2, n1, n2, HST.out, by omega, by omega⟩
  go_wp2_with fail
  go_ret
  exact ⟨rfl, Lib.hid (HK3.out.weaken fun _ h => h.2)⟩
def WritesTo (i o : Int) (gs : List (List Sp)) (l : List TermI) (k : Nat) : Prop := ∀ t ∈ l.take k, FitsP i o gs t.L
theorem writes_st (hK : Hid (St w0 w F)) (i o n s : Int) (ra fa : Option Addr) (rl rc fl fc : Nat) {TA : Option Addr} {T : List TermI} (ht : ∀ W, F W → TermsAt TA T W) (tc : Nat) {B : Option Addr} {O : List (Item Sp)} (hb : ∀ W, F W → LLx B O W) (cb : Nat)
    (h4 : O.length ≤ 4) (v : Bool) (hv : Hid (pB (WritesOk i o (bodies O) (T.map TermI.L)) = v)) (hst : ∀ t ∈ T, StageP t.ps) :
    Calls Tryz.prog 153 #[.agg #[.int .i64 i, .int .i64 o, .int .i64 n, .int .i64 s, .slice ra rl rc, .slice fa fl fc], .slice TA T.length tc, .slice B O.length cb] w (RetV w0 (.bool v) F) := by
  have HT := Lib.hid ht
  have HB := Lib.hid hb
  have HST := Lib.hid hst
  have hln := (ht _ hK.out.now).ln
  have HK := St.box hK [.int .i64 i, .int .i64 o, .int .i64 n, .int .i64 s, .slice ra rl rc, .slice fa fl fc] 26
  clear ht hb hst
  by_cases h64 : (T.length : Int) ≤ 64
  case neg =>
    obtain rfl := pB_f hv (fun h => h64 (by have := h.1; rw [List.length_map] at this; omega))
    go_enter Tryz.func153, Tryz.ntmps153
    go_wp2_with fail
    go_ret
    exact ⟨rfl, Lib.hid (HK.out.weaken fun _ h => h.2)⟩
  go_enter Tryz.func153, Tryz.ntmps153
  go_wp2_with fail
  go_loopw [14] (fun iv wr => ∃ k : Nat, k ≤ T.length ∧ iv = .int .i64 k ∧ Hid (WritesTo i o (bodies O) T k) ∧ Hid (St w0 wr (fun W => BoxC w.heap.size [.int .i64 i, .int .i64 o, .int .i64 n, .int .i64 s, .slice ra rl rc, .slice fa fl fc] W ∧ F W))) (fun iv _ => T.length - (intOf iv).toNat)
  case atStart => exact ⟨0, Nat.zero_le _, rfl, Lib.hid (fun g hg => by simp at hg), HK⟩
  case round =>
  clear HK
  obtain ⟨k, hk, rfl, HR, HK⟩ := hrel
  by_cases hlt : k < T.length
  · obtain ⟨tb, off, t, rfl, hx, hw, hd0, hd1, hd2, hd3, hd4, hd5⟩ := (HT.out _ HK.out.now.2).at_ hlt
    have HX := Lib.hid hx
    have HKt := Lib.hid (HK.out.add (Below.refl _ _) (G := PartsAt t.pa t.ps) (fun W hW => hw.2.below hW))
    have HKp := St.box HKt (termC t) 68
    have hsp := HST.out t (List.mem_of_getElem? hx)
    have HBAD : ¬ FitsP i o (bodies O) t.L → v = false := fun h => pB_f hv (fun g => h (g.2 _ (List.mem_map.2 ⟨t, List.mem_of_getElem? HX.out, rfl⟩)))
    obtain ⟨b, d, tt, u, sm, pa, pc, ps⟩ := t
    simp only [termC] at hd0 hd1 hd2 hd3 hd4 hd5 HKp HKt hsp
    obtain ⟨q0, q1, q2, q3, q4, q5⟩ := HKp.out.now.2.2.1.c6
    have HSP := Lib.hid hsp
    clear hx hw hsp
    by_cases a1 : FitsP i o (bodies O) ⟨b, d, tt, u, sm, ps⟩
    · have H1 := Lib.hid (pB_true a1)
      have HN : Hid (WritesTo i o (bodies O) T (k + 1)) := Lib.hid fun q hq => by
        rw [take_snoc? HX.out] at hq
        rcases List.mem_append.1 hq with hq | hq
        · exact HR.out q hq
        · simp at hq; subst hq; exact a1
      clear a1 HBAD
      go_wp2_with fail
      refine (Fits_st HKp (fun _ h => h.2.1) b d tt u sm pc i o (fun _ h => HB.out _ h.2.2.2) cb h4 true H1 HSP.out).mono ?_
      rintro e w3 ⟨rfl, HK3⟩
      go_wp2_with fail
      go_roundw
      case rel => exact ⟨k + 1, by omega, by go_num, HN, Lib.hid (HK3.out.weaken fun _ h => h.2.2)⟩
      case measure => simp [intOf]; omega
    · have H1 := Lib.hid (pB_false a1)
      obtain rfl := HBAD a1
      clear a1 HBAD
      go_wp2_with fail
      refine (Fits_st HKp (fun _ h => h.2.1) b d tt u sm pc i o (fun _ h => HB.out _ h.2.2.2) cb h4 false H1 HSP.out).mono ?_
      rintro e w3 ⟨rfl, HK3⟩
      go_wp2_with fail
      go_ret
      exact ⟨rfl, Lib.hid (HK3.out.weaken fun _ h => h.2.2.2)⟩
  · obtain rfl : k = T.length := by omega
    have hd : decide (T.length < T.length) = false := by simp
    obtain rfl := pB_t hv ⟨by rw [List.length_map]; omega, fun t ht => by
      obtain ⟨t', ht', rfl⟩ := List.mem_map.1 ht
      exact HR.out t' (by rwa [List.take_length])⟩
    go_wp2_with fail
    go_ret
    exact ⟨rfl, Lib.hid (HK.out.weaken fun _ h => h.2)⟩
end
end Go.Proofs.YtlmkokeapbleoaaGreat
end
section
namespace Go.Proofs.YtlmkokeapbleoaaGreat
open Go.RowKit
def OnTo (ls : List Int) (gs : List (List Sp)) (w : List Int) (k : Nat) : Prop := ∀ (j : Nat) g c, j < k → gs[j]? = some g → w[j]? = some c → hasB g (ls.getD c.toNat 0) = true
def OnG (ls : List Int) (gs : List (List Sp)) (w : List Int) : Prop := ∀ (j : Nat) g c, gs[j]? = some g → w[j]? = some c → hasB g (ls.getD c.toNat 0) = true
def ClsOk (ls : List Int) (w : List Int) : Prop := w.length ≤ 4 ∧ ∀ c ∈ w, 0 ≤ c ∧ c < ls.length
def wordC (w : List Int) : List Value := [.int .i64 w.length, .int .i64 (w.getD 0 0), .int .i64 (w.getD 1 0), .int .i64 (w.getD 2 0), .int .i64 (w.getD 3 0)]
theorem BoxC.word {b : Nat} {w : List Int} {W : World} (h : BoxC b (wordC w) W) {k : Nat} {c : Int} (hw : w.length ≤ 4) (hc : w[k]? = some c) : W.cell? ⟨b, 1 + k, none⟩ = some (.int .i64 c) := by
  have hk := (List.getElem?_eq_some_iff.1 hc).1
  have : k = 0 ∨ k = 1 ∨ k = 2 ∨ k = 3 := by omega
  have hg : w.getD k 0 = c := by rw [List.getD_eq_getElem?_getD, hc]; rfl
  rcases this with rfl | rfl | rfl | rfl
  · exact h 1 _ (by simp only [wordC]; rw [← hg]; rfl)
  · exact h 2 _ (by simp only [wordC]; rw [← hg]; rfl)
  · exact h 3 _ (by simp only [wordC]; rw [← hg]; rfl)
  · exact h 4 _ (by simp only [wordC]; rw [← hg]; rfl)
theorem getD_of {l : List Int} {k : Nat} {x : Int} (h : l[k]? = some x) : l.getD k 0 = x := by rw [List.getD_eq_getElem?_getD, h]; rfl
section
variable {w0 w : World} {F : World → Prop}
theorem has_st (hK : Hid (St w0 w F)) (mb : Nat) {la : Option Addr} {ls : List Int} {lc : Nat} (hm : ∀ W, F W → W.cell? ⟨mb, 6, none⟩ = some (.slice la ls.length lc) ∧ IntsAt la ls W) {A : Option Addr} {O : List (Item Sp)} (ha : ∀ W, F W → LLx A O W) (c : Nat) (wd : List Int) (c0 c1 c2 c3 : Int) (hwc : Hid (wordC wd = [.int .i64 wd.length, .int .i64 c0, .int .i64 c1, .int .i64 c2, .int .i64 c3])) (hw : Hid (ClsOk ls wd)) (v : Bool) (hv : Hid (pB (OnG ls (bodies O) wd) = v)) :
    Calls Tryz.prog 125 #[.pointer (some ⟨mb, 0, none⟩), .slice A O.length c, .agg #[.int .i64 wd.length, .int .i64 c0, .int .i64 c1, .int .i64 c2, .int .i64 c3]] w (RetV w0 (.bool v) F) := by
  have HM := Lib.hid hm
  have HA := Lib.hid ha
  have hln := (ha _ hK.out.now).2
  have HK := St.box hK [.int .i64 wd.length, .int .i64 c0, .int .i64 c1, .int .i64 c2, .int .i64 c3] 148
  obtain ⟨m, hm⟩ : ∃ m : Nat, min O.length wd.length = m := ⟨_, rfl⟩
  have hmm : min (O.length : Int) (wd.length : Int) = (m : Int) := by omega
  have HMN := Lib.hid hm
  have HMM := Lib.hid hmm
  have hw4 := hw.out.1
  have q0 := HK.out.now.1 0 _ rfl
  have HK : Hid (St w0 (w.alloc (.cells [.int .i64 wd.length, .int .i64 c0, .int .i64 c1, .int .i64 c2, .int .i64 c3].toArray 148)) (fun W => BoxC w.heap.size (wordC wd) W ∧ F W)) := by rw [hwc.out]; exact HK
  clear hm ha
  go_enter Tryz.func125, Tryz.ntmps125
  go_wp2_with fail
  clear q0 hmm
  go_loopw [13] (fun iv wr => ∃ k : Nat, k ≤ m ∧ iv = .int .i64 k ∧ Hid (OnTo ls (bodies O) wd k) ∧ Hid (St w0 wr (fun W => BoxC w.heap.size (wordC wd) W ∧ F W))) (fun iv _ => m - (intOf iv).toNat)
  case atStart => exact ⟨0, Nat.zero_le _, rfl, Lib.hid (fun j s t hj => by omega), HK⟩
  case round =>
  clear HK
  obtain ⟨k, hk, rfl, HR, HK⟩ := hrel
  by_cases hlt : k < m
  · obtain ⟨gb, off, ba, bc, b, rfl, _, hb, hc, hl⟩ := (HA.out _ HK.out.now.2).at_ (k := k) (by have := HMN.out; omega)
    obtain ⟨cc, hcw⟩ : ∃ cc, wd[k]? = some cc := ⟨_, List.getElem?_eq_getElem (by have := HMN.out; omega)⟩
    obtain ⟨hc0, hc1⟩ := hw.out.2 cc (List.mem_of_getElem? hcw)
    obtain ⟨n, rfl⟩ := Int.eq_ofNat_of_zero_le hc0
    have hcb := HK.out.now.1.word hw4 hcw
    obtain ⟨hm6, hmi⟩ := HM.out _ HK.out.now.2
    obtain ⟨lb, lo, x, rfl, hx, hxw, hcx⟩ := hmi.at_ (j := n) (by omega)
    have HX := Lib.hid (And.intro hb (And.intro hcw hx))
    have HKi := Lib.hid (HK.out.add (Below.refl _ _) (G := fun W => (W.cell? ⟨gb, off + k, none⟩ = some (.slice ba b.length bc) ∧ W.cell? ⟨mb, 6, none⟩ = some (.slice (some ⟨lb, lo, none⟩) ls.length lc) ∧ W.cell? ⟨w.heap.size, 1 + k, none⟩ = some (.int .i64 (n : Int)) ∧ W.cell? ⟨lb, lo + n, none⟩ = some (.int .i64 x)) ∧ Lst ba b W)
      (fun W hW => ⟨⟨(hW.cell (p := ⟨gb, off + k, none⟩) (lt_of_cell hc)).trans hc, (hW.cell (p := ⟨mb, 6, none⟩) (lt_of_cell hm6)).trans hm6, (hW.cell (p := ⟨w.heap.size, 1 + k, none⟩) (lt_of_cell hcb)).trans hcb, (hW.cell (p := ⟨lb, lo + n, none⟩) (lt_of_cell hcx)).trans hcx⟩, hl.below hW⟩))
    have hk1 : (k : Int) < O.length := by have := HMN.out; omega
    have hk4 : (k : Int) < 4 := by have := HMN.out; omega
    have hk0 : (0 : Int) ≤ (k : Int) := by omega
    have hn1 : (n : Int) < (ls.length : Int) := by omega
    have hkm : (k : Int) < (m : Int) := by omega
    obtain ⟨vm, hvm⟩ : ∃ vm, hasB b x = vm := ⟨_, rfl⟩
    have HVM := Lib.hid hvm
    have HLT := Lib.hid hlt
    clear hb hl hc hlt hcw hc0 hc1 hcb hm6 hmi hx hxw hcx hvm
    go_wp2_with fail
    have HK1 := St.hdrewN HKi 1
    go_region_held3 (fun W => W.cell? ⟨gb, off + k, none⟩ = some (.slice ba b.length bc) ∧ W.cell? ⟨mb, 6, none⟩ = some (.slice (some ⟨lb, lo, none⟩) ls.length lc) ∧ W.cell? ⟨w.heap.size, 1 + k, none⟩ = some (.int .i64 (n : Int)) ∧ W.cell? ⟨lb, lo + n, none⟩ = some (.int .i64 x))
      (first | exact HK2.out.now.1.1 | exact HK1.out.now.1.1 | go_keep)
      ((go_at_call 119; refine (Has_st HK1 (fun _ h => h.1.2) bc x HVM.out).mono ?_; rintro e5 w5 ⟨rfl, HK2⟩))
    rcases vm with _ | _
    · obtain rfl := pB_f hv (fun h => by
        have := h k b n HX.out.1 HX.out.2.1
        rw [Int.toNat_natCast, getD_of HX.out.2.2, HVM.out] at this; cases this)
      go_wp2_with fail
      go_ret
      exact ⟨rfl, Lib.hid (HK2.out.weaken fun _ h => h.2.2)⟩
    · have HN : Hid (OnTo ls (bodies O) wd (k + 1)) := Lib.hid fun j s t hj hs ht => by
        by_cases e : j = k
        · subst e
          rw [HX.out.1] at hs; rw [HX.out.2.1] at ht
          injection hs with hs; injection ht with ht
          subst hs; subst ht
          rw [Int.toNat_natCast, getD_of HX.out.2.2, HVM.out]
        · exact HR.out j s t (by omega) hs ht
      go_wp2_with fail
      go_roundw
      case rel => exact ⟨k + 1, by have := HLT.out; omega, by go_num, HN, Lib.hid (HK2.out.weaken fun _ h => h.2)⟩
      case measure => have := HLT.out; simp [intOf]; omega
  · obtain rfl : k = m := by omega
    have hd : decide (k < k) = false := by simp
    have hmm := HMM.out
    obtain rfl := pB_t hv (fun j s t hs ht => HR.out j s t (by
      have h1 := (List.getElem?_eq_some_iff.1 hs).1
      have h2 := (List.getElem?_eq_some_iff.1 ht).1
      rw [bodies_length] at h1
      have := HMN.out; omega) hs ht)
    go_wp2_with fail
    go_ret
    exact ⟨rfl, Lib.hid (HK.out.weaken fun _ h => h.2)⟩
end
end Go.Proofs.YtlmkokeapbleoaaGreat
end
section
namespace Go.Proofs.YtlmkokeapbleoaaGreat
open Go.RowKit
def RetOwn (w : World) (E : TypeId) (size n : Nat) (cs : List Value) (e : Ending) (w' : World) : Prop := ∃ A' c', e = .returned (.slice A' n c') ∧ Hid (w'.ownsRow w.heap.size E size (.slice A' n c') n cs) ∧ Hid (Below w.heap.size w w')
theorem infoClPart : (Tryz.prog.info? 70).map (fun i => (i.zero, i.size, i.bytes)) = some (some (.agg #[.int .i64 0, .int .i64 0, .int .i64 0, .int .i64 0]), 4, 32) := by kernel_rfl
theorem ClonePart (w : World) {A : Option Addr} {n : Nat} {cs : List Value} (hs : Sl w 4 A n cs) (h1 : ∀ u ∈ cs, u.oneCell' = true) (hn : n ≤ 1048576) (c : Nat) :
    Calls Tryz.prog 145 #[.slice A n c] w (RetOwn w 70 4 n cs) := by
  rcases A with _ | ⟨b, o, q⟩
  · obtain rfl : n = 0 := by
      rcases Nat.eq_zero_or_pos n with h | h
      · exact h
      · obtain ⟨b, off, e, _⟩ := hs.2 h
        cases e
    have hcs : cs = [] := List.eq_nil_of_length_eq_zero (by have := hs.1; omega)
    subst hcs
    have q22 := fun (w : World) (a : Option Addr) (n c n' c' : Nat) => Lib.run_eql_slice_nil (P := Tryz.prog) w 66 70 a n c n' c' Tryz.underlying66
    go_enter Tryz.func145, Tryz.ntmps145
    go_wp2_with fail
    go_ret
    exact ⟨_, _, rfl, Lib.hid (World.ownsRow_nil _ _ _ _), Lib.hid (Below.refl _ _)⟩
  · have q22 := fun (w : World) (a : Option Addr) (n c n' c' : Nat) => Lib.run_eql_slice_nil (P := Tryz.prog) w 66 70 a n c n' c' Tryz.underlying66
    obtain ⟨i0, hi, hz0, hz1, hz2⟩ := info_parts infoClPart
    have HSL : Hid (Sl (w.alloc (.cells #[] 70)) 4 (some ⟨b, o, q⟩) n cs) := Lib.hid (hs.alloc _)
    have HON := Lib.hid (World.ownsRow_made w #[] 0 (e := 70) (size := 4) (Nat.le_refl w.heap.size) (Nat.zero_le _) (by simp))
    have H1 := Lib.hid h1
    clear hs h1
    go_enter Tryz.func145, Tryz.ntmps145
    go_wp2_with (at_builtin; go_must (refine wpList_append_sl _ rfl _ _ 66 rfl w.heap.size 70 i0 _ 4 32 Tryz.underlying66 hi hz0 hz1 hz2 rfl (by decide) HON.out rfl HSL.out rfl H1.out (by unfold maxLen; omega) (by omega) (by simp) ?_); intro v' w2 hown2 hg2)
    go_ret
    obtain ⟨A4, c4, rfl⟩ := own_shape hown2
    refine ⟨A4, c4, by first | rfl | simp, Lib.hid (by simpa using hown2), Lib.hid (((Below.refl _ w).alloc (Nat.le_refl _) _).grown hg2 (by simp) (fun k hk => by simp [Value.ownBlock] at hk; omega))⟩
end Go.Proofs.YtlmkokeapbleoaaGreat
end
section
namespace Go.Proofs.YtlmkokeapbleoaaGreat
open Go.RowKit
theorem flat_one {α : Type} {f : α → List Value} (hf : ∀ x, ∀ u ∈ f x, u.oneCell' = true) (l : List α) : ∀ u ∈ l.flatMap f, u.oneCell' = true := fun u hu => by
  obtain ⟨x, _, hx⟩ := List.mem_flatMap.1 hu
  exact hf x u hx
theorem partC_one (p : PartL) : ∀ u ∈ partC p, u.oneCell' = true := by simp [partC, Value.oneCell']
theorem infoTermO : (Tryz.prog.info? 68).map (fun i => (i.zero, i.size, i.bytes)) = some (some (.agg #[.int .i64 0, .int .i64 0, .int .i64 0, .int .i64 0, .int .i64 0, .slice none 0 0]), 6, 64) := by kernel_rfl
def Unf (A : Option Addr) (m : Nat) (W : World) : Prop := ∀ g off, A = some ⟨g, off, none⟩ → ∀ j, j < m → g < W.heap.size ∧ W.frozen? ⟨g, off + j, none⟩ = false
theorem Unf.below {A : Option Addr} {m : Nat} {W W' : World} (h : Unf A m W) (hb : Below W.heap.size W W') : Unf A m W' := fun g off e j hj => by
  have h1 := h g off e j hj
  exact ⟨by have := hb.size; omega, (hb.frozen (p := ⟨g, off + j, none⟩) h1.1).trans h1.2⟩
theorem own_unf {W : World} {m size n c : Nat} {et : TypeId} {A : Option Addr} {xs : List Value} (h : W.ownsRow m et size (.slice A n c) n xs) : Unf A (n * size) W := fun g off e j hj => by
  subst e
  rcases h.2 with ⟨e, _⟩ | ⟨g', cap, cur, e, _, hg, _⟩
  · cases e
  · injection e with e1 _ _; injection e1 with e1; injection e1 with e1 e2; subst e1; subst e2
    exact ⟨(Array.getElem?_eq_some_iff.1 hg).1, by simp [World.frozen?, hg]⟩
def TermF (t : TermI) (W : World) : Prop := Unf t.pa (t.ps.length * 4) W
def OutF (o : OutI) (W : World) : Prop := Unf o.a (o.l.length * 6) W ∧ ∀ t ∈ o.l, TermF t W
theorem OutF.below {o : OutI} {W W' : World} (h : OutF o W) (hb : Below W.heap.size W W') : OutF o W' := ⟨h.1.below hb, fun t ht => (h.2 t ht).below hb⟩
def RetTerms (w : World) (l : List TermI) (e : Ending) (w' : World) : Prop := ∃ A' c' l', e = .returned (.slice A' (l' : List TermI).length c') ∧ Hid (l'.map TermI.L = l.map TermI.L) ∧ Hid (Dep (fun k => w.heap.size ≤ k) w' (TermsAt A' l')) ∧ Hid (Below w.heap.size w w') ∧ Hid (Dep (fun k => w.heap.size ≤ k) w' (OutF ⟨A', c', l'⟩))
theorem rows_own {α : Type} {size : Nat} {f : α → List Value} {R : α → World → Prop} {W : World} {n : Nat} {E : TypeId} {A : Option Addr} {c : Nat} {L : List α} (h : W.ownsRow n E size (.slice A L.length c) L.length (L.flatMap f)) (hl : L.length ≤ 9223372036854775807) (hR : ∀ x ∈ L, ∀ V, R x V) : Dep (fun k => n ≤ k) W (RowsAt size f R A L) := fun V hV =>
  ⟨Sl.of_own (own_keep h fun k hk => hV k (own_ty h hk).1 (own_ty h hk).2.1), fun x hx => hR x hx V, hl⟩
theorem own_st (w : World) {A : Option Addr} {l : List TermI} (ha : TermsAt A l w) (hl : l.length ≤ 1048576) (hp : ∀ t ∈ l, t.ps.length ≤ 1048576) (c : Nat) :
    Calls Tryz.prog 126 #[.slice A l.length c] w (RetTerms w l) := by
  have HA : Hid (∀ W, Below w.heap.size w W → TermsAt A l W) := Lib.hid fun W hW => TermsAt.below ha hW
  have HPL := Lib.hid hp
  obtain ⟨i0, hi, hz0, hz1, hz2⟩ := info_parts infoTermO
  clear ha hp
  go_enter Tryz.func126, Tryz.ntmps126
  go_wp2_with fail
  go_loopw [3, 8] (fun ov iv wr => ∃ (k : Nat) (A2 : Option Addr) (c2 : Nat) (L : List TermI), k ≤ l.length ∧ iv = .int .i64 k ∧ L.length = k ∧ ov = .slice A2 L.length c2 ∧ Hid (L.map TermI.L = (l.take k).map TermI.L) ∧ Hid (GoRow w.heap.size 68 6 termC (fun t W => TermW t W ∧ TermF t W) A2 c2 L wr) ∧ Hid (Below w.heap.size w wr)) (fun _ iv _ => l.length - (intOf iv).toNat)
  case atStart => exact ⟨0, none, 0, [], Nat.zero_le _, rfl, rfl, rfl, Lib.hid rfl, Lib.hid (GoRow.nil_ _ _ _ _ _ _), Lib.hid (Below.refl _ _)⟩
  case round =>
  obtain ⟨k, A2, c2, L, hk, rfl, hLk, rfl, HL, HG, HBL⟩ := hrel
  by_cases hlt : k < l.length
  · obtain ⟨tb, off, t, rfl, hx, hw, hd0, hd1, hd2, hd3, hd4, hd5⟩ := (HA.out _ HBL.out).at_ hlt
    have HX := Lib.hid hx
    have hpl := HPL.out t (List.mem_of_getElem? hx)
    obtain ⟨b, d, tt, u, s, pa, pc, ps⟩ := t
    simp only at hd0 hd1 hd2 hd3 hd4 hd5 hpl
    have HW := Lib.hid hw
    have hsz := HBL.out.size
    obtain ⟨w1, hw1⟩ : ∃ z, wr.alloc (.cells #[.int .i64 b, .int .i64 d, .int .i64 tt, .int .i64 u, .int .i64 s, .slice pa ps.length pc] 68) = z := ⟨_, rfl⟩
    have hb1 : Below wr.heap.size wr w1 := by rw [← hw1]; exact (Below.refl _ _).alloc (Nat.le_refl _) _
    have hx1 : w1.heap[wr.heap.size]? = some (.cells #[.int .i64 b, .int .i64 d, .int .i64 tt, .int .i64 u, .int .i64 s, .slice pa ps.length pc] 68 (0, 0)) := by rw [← hw1]; exact heap_alloc_new wr _
    have hs1 : w1.heap.size = wr.heap.size + 1 := by rw [← hw1]; simp
    have hq5 : w1.cell? ⟨wr.heap.size, 5, none⟩ = some (.slice pa ps.length pc) := by simp [World.cell?, hx1]
    have HB1 := Lib.hid hb1
    have HX1 := Lib.hid hx1
    have HS1 := Lib.hid hs1
    have hpsl : Sl w1 4 pa ps.length (ps.flatMap partC) := hw.2.sl.below (B := 0) hb1
    have HPS := Lib.hid hpsl
    clear hx hw hb1 hx1 hs1 hpsl
    go_wp2_with fail
    refine (ClonePart w1 HPS.out (flat_one partC_one ps) hpl pc).mono ?_
    rintro e w2 ⟨A5, c5, rfl, HO5, HB5⟩
    clear hw1
    have hx2 : w2.heap[wr.heap.size]? = some (.cells #[.int .i64 b, .int .i64 d, .int .i64 tt, .int .i64 u, .int .i64 s, .slice pa ps.length pc] 68 (0, 0)) := (HB5.out.block _ (by have := HS1.out; omega)).trans HX1.out
    have hf2 : w2.frozen? ⟨wr.heap.size, 5, none⟩ = false := by simp [World.frozen?, hx2]
    have hc2 : w2.cell? ⟨wr.heap.size, 5, none⟩ = some (.slice pa ps.length pc) := by simp [World.cell?, hx2]
    obtain ⟨w3, hw3⟩ : ∃ z, w2.setCell ⟨wr.heap.size, 5, none⟩ (.slice A5 ps.length c5) = z := ⟨_, rfl⟩
    have hx3 : w3.heap[wr.heap.size]? = some (.cells #[.int .i64 b, .int .i64 d, .int .i64 tt, .int .i64 u, .int .i64 s, .slice A5 ps.length c5] 68 (0, 0)) := by
      rw [← hw3, heap_setCell_same w2 wr.heap.size 5 _ _ _ hx2]; rfl
    have he0 : w3.cell? ⟨wr.heap.size, 0, none⟩ = some (.int .i64 b) := by simp [World.cell?, hx3]
    have he1 : w3.cell? ⟨wr.heap.size, 1, none⟩ = some (.int .i64 d) := by simp [World.cell?, hx3]
    have he2 : w3.cell? ⟨wr.heap.size, 2, none⟩ = some (.int .i64 tt) := by simp [World.cell?, hx3]
    have he3 : w3.cell? ⟨wr.heap.size, 3, none⟩ = some (.int .i64 u) := by simp [World.cell?, hx3]
    have he4 : w3.cell? ⟨wr.heap.size, 4, none⟩ = some (.int .i64 s) := by simp [World.cell?, hx3]
    have he5 : w3.cell? ⟨wr.heap.size, 5, none⟩ = some (.slice A5 ps.length c5) := by simp [World.cell?, hx3]
    have hst : ∀ j, j ≠ wr.heap.size → w3.heap[j]? = w2.heap[j]? := fun j hj => by rw [← hw3]; exact heap_setCell_other _ _ _ _ hj
    have hs3 : w3.heap.size = w2.heap.size := by rw [← hw3]; simp
    have hs12 := HB5.out.size
    have hold : ∀ j, j < wr.heap.size → w3.heap[j]? = wr.heap[j]? := fun j hj => (hst j (by omega)).trans ((HB5.out.block j (by have := HS1.out; omega)).trans (HB1.out.block j hj))
    have HG3 := Lib.hid (HG.out.keep (by have := HS1.out; omega) fun j _ hj => hold j hj)
    have HB3 : Hid (Below w.heap.size w w3) := Lib.hid (by
      have h := HBL.out.trans ((HB1.out.trans (HB5.out.mono (by have := HS1.out; omega))).mono hsz)
      rw [← hw3]; exact h.setCell hsz _)
    have HD3 : Hid (Dep (fun j => w.heap.size ≤ j ∧ some j ≠ ownA A2) w3 (fun W => TermW ⟨b, d, tt, u, s, A5, c5, ps⟩ W ∧ TermF ⟨b, d, tt, u, s, A5, c5, ps⟩ W)) := Lib.hid fun V hV => by
      have hk5 : V.ownsRow w1.heap.size 70 4 (.slice A5 ps.length c5) ps.length (ps.flatMap partC) := own_keep HO5.out fun j hj => by
        have h1 := own_ty HO5.out hj
        have hn : j ≠ wr.heap.size := by have := HS1.out; omega
        refine (hV j ⟨by have := HS1.out; omega, fun e => ?_⟩ (by omega)).trans (hst j hn)
        have h2 := (HG.out.rlt j e.symm).2
        have := HS1.out; omega
      exact ⟨⟨HW.out.1, Sl.of_own hk5, HW.out.2.it, HW.out.2.ln⟩, own_unf hk5⟩
    have hz3 : w.heap.size ≤ w3.heap.size := by have := HS1.out; omega
    have hl40 : L.length < 1099511627776 := by omega
    have HO3 : Hid (w3.ownsRow w.heap.size 68 6 (.slice A2 L.length c2) L.length (L.flatMap termC)) := Lib.hid HG3.out.own
    have HLT := Lib.hid hlt
    clear hx2 hst hs3 hold hs12 hx3 hq5 hlt
    subst hLk
    go_wp2_with (at_builtin; go_must (refine wpList_pushG rfl _ _ 57 rfl w.heap.size 68 i0 _ 6 64 Tryz.underlying57 hi hz0 hz1 hz2 rfl (by decide) HO3.out rfl [.int .i64 b, .int .i64 d, .int .i64 tt, .int .i64 u, .int .i64 s, .slice A5 ps.length c5] 68 (by first | rfl | (simp; rfl) | simp) rfl (by simp [Value.oneCell']) hl40 (by decide) hz3 ?_); intro A9 c9 w9 HO9 HG9 HN9)
    have HGN := Lib.hid (HG3.out.push (x := ⟨b, d, tt, u, s, A5, c5, ps⟩) HO9.out HG9.out HN9.out HD3.out)
    have HBN : Hid (Below w.heap.size w w9) := Lib.hid ((HB3.out.alloc hz3 _).grown HG9.out (by simp; omega) fun g hg => (HG3.out.rlt g hg).1)
    go_roundw
    case rel => exact ⟨L.length + 1, A9, c9, L ++ [⟨b, d, tt, u, s, A5, c5, ps⟩], by have := HLT.out; omega, by go_num, by simp, by simp, Lib.hid (by rw [List.map_append, HL.out, take_snoc? HX.out, List.map_append]; rfl), HGN, HBN⟩
    case measure => have := HLT.out; simp [intOf]; omega
  · obtain rfl : k = l.length := by omega
    have hd : decide (l.length < l.length) = false := by simp
    have HLA : Hid (L.map TermI.L = l.map TermI.L) := Lib.hid (by have := HL.out; rwa [List.take_length] at this)
    go_wp2_with fail
    go_ret
    have hrw := HG.out.rows (by omega)
    exact ⟨A2, c2, L, rfl, HLA, Lib.hid (fun V hV => let q := hrw V hV; ⟨q.sl, fun t ht => (q.it t ht).1, q.ln⟩), HBL, Lib.hid (fun V hV => ⟨own_unf (own_keep HG.out.own fun k hk => hV k (HG.out.rlt k hk).1 (HG.out.rlt k hk).2), fun t ht => ((hrw V hV).it t ht).2⟩)⟩
end Go.Proofs.YtlmkokeapbleoaaGreat
end
section
namespace Go.Proofs.YtlmkokeapbleoaaGreat
open Go.RowKit
structure MkB where
  d : DescI
  n : Nat
  mb : Nat
  nb : Nat
  ab : Nat
  eb : Nat
  la : Option Addr
  lc : Nat
  ls : List Int
  ra : Option Addr
  rc : Nat
  rows : List (Item Int)
  fa : Option Addr
  fc : Nat
  fins : List (Item Int)
  cls : List Int
  av : Nat → Prop
structure MkV where
  pa : Option Addr
  pc : Nat
  ps : List Place
  aa : Option Addr
  ac : Nat
  acs : List (Nat × ActI)
  ea : Option Addr
  ec : Nat
  es : List (Nat × OutI)
  na : Option Addr
  nc : Nat
  ns : List NodeI
def mkHead (B : MkB) (V : MkV) : List Value := [.int .i64 B.d.i, .int .i64 B.d.o, .int .i64 B.d.n, .int .i64 B.d.s, .slice B.d.ra B.d.rs.length B.d.rc, .slice B.d.fa B.d.fs.length B.d.fc,
  .slice B.la B.ls.length B.lc, .slice B.ra B.rows.length B.rc, .slice B.fa B.fins.length B.fc, .slice V.pa V.ps.length V.pc, .map (some B.nb), .map (some B.ab), .map (some B.eb)]
def mkTail (V : MkV) : List Value := [.slice V.na V.ns.length V.nc, .slice V.aa V.acs.length V.ac, .slice V.ea V.es.length V.ec]
def mkCells (B : MkB) (V : MkV) : List Value := mkHead B V ++ (B.cls.map (Value.int .u8) ++ mkTail V)
theorem mkCells_lo (B : MkB) (V : MkV) {i : Nat} (hi : i < 13) : (mkCells B V)[i]? = (mkHead B V)[i]? := by
  unfold mkCells
  rw [List.getElem?_append_left (by simpa [mkHead] using hi)]
theorem mkCells_hi (B : MkB) (V : MkV) (hc : B.cls.length = 256) (j : Nat) : (mkCells B V)[269 + j]? = (mkTail V)[j]? := by
  unfold mkCells
  rw [List.getElem?_append_right (by simp [mkHead]; omega), List.getElem?_append_right (by simp [mkHead, hc]; omega)]
  congr 1
  simp [mkHead, hc]; omega
theorem mkCells_len (B : MkB) (V : MkV) (hc : B.cls.length = 256) : (mkCells B V).length = 272 := by simp [mkCells, mkHead, mkTail, hc]
theorem mkCells_set9 (B : MkB) (V : MkV) (a : Option Addr) (c : Nat) (ps : List Place) : (mkCells B V).set 9 (.slice a ps.length c) = mkCells B { V with pa := a, pc := c, ps := ps } := rfl
theorem set_hi {l m : List Value} {k : Nat} (hl : l.length = k) (j : Nat) (v : Value) : (l ++ m).set (k + j) v = l ++ m.set j v := by
  rw [List.set_append_right _ _ (by omega)]
  congr 2; omega
theorem mkCells_set269 (B : MkB) (V : MkV) (hc : B.cls.length = 256) (a : Option Addr) (c : Nat) (ns : List NodeI) : (mkCells B V).set 269 (.slice a ns.length c) = mkCells B { V with na := a, nc := c, ns := ns } := by
  unfold mkCells
  rw [← List.append_assoc, show 269 = 269 + 0 from rfl, set_hi (by simp [mkHead, hc]), List.append_assoc]; rfl
theorem mkCells_set270 (B : MkB) (V : MkV) (hc : B.cls.length = 256) (a : Option Addr) (c : Nat) (acs : List (Nat × ActI)) : (mkCells B V).set 270 (.slice a acs.length c) = mkCells B { V with aa := a, ac := c, acs := acs } := by
  unfold mkCells
  rw [← List.append_assoc, show 270 = 269 + 1 from rfl, set_hi (by simp [mkHead, hc]), List.append_assoc]; rfl
theorem mkCells_set271 (B : MkB) (V : MkV) (hc : B.cls.length = 256) (a : Option Addr) (c : Nat) (es : List (Nat × OutI)) : (mkCells B V).set 271 (.slice a es.length c) = mkCells B { V with ea := a, ec := c, es := es } := by
  unfold mkCells
  rw [← List.append_assoc, show 271 = 269 + 2 from rfl, set_hi (by simp [mkHead, hc]), List.append_assoc]; rfl
def LLi (A : Option Addr) (O : List (Item Int)) (W : World) : Prop := Items IntsAt A O.length O W ∧ O.length ≤ 9223372036854775807
theorem IntsAt.lasts : Lasts IntsAt := fun A l w w' h hb => h.below hb
theorem LLi.below {A : Option Addr} {O : List (Item Int)} {w w' : World} (h : LLi A O w) (hb : Below w.heap.size w w') : LLi A O w' := ⟨Items.below h.1 IntsAt.lasts hb, h.2⟩
def Mut (B : MkB) (V : MkV) (k : Nat) : Prop := k = B.mb ∨ k = B.nb ∨ k = B.ab ∨ k = B.eb ∨ ownA V.pa = some k ∨ ownA V.aa = some k ∨ ownA V.ea = some k ∨ ownA V.na = some k
structure ImmW (B : MkB) (V : MkV) (W : World) : Prop where
  ls : IntsAt B.la B.ls W
  rows : LLi B.ra B.rows W
  fins : LLi B.fa B.fins W
  acs : ∀ x ∈ V.acs, ActW x.2 W ∧ OutF x.2.o W
  es : ∀ x ∈ V.es, OutW x.2 W
  ns : ∀ x ∈ V.ns, NodeW x W ∧ Unf x.na (x.nx.length * 1) W
theorem ImmW.below {B : MkB} {V : MkV} {W W' : World} (h : ImmW B V W) (hb : Below W.heap.size W W') : ImmW B V W' :=
  ⟨h.ls.below hb, h.rows.below hb, h.fins.below hb, fun x hx => ⟨ActW.stays _ _ _ (h.acs x hx).1 hb, (h.acs x hx).2.below hb⟩, fun x hx => OutW.stays _ _ _ (h.es x hx) hb, fun x hx => ⟨NodeW.stays _ _ _ (h.ns x hx).1 hb, (h.ns x hx).2.below hb⟩⟩
def idxM (l : List Nat) : List (Value × Value) := l.zipIdx.map fun x => (.int .i64 (x.1 : Int), .int .i64 (x.2 : Int))
def numM (l : List Place) : List (Value × Value) := l.zipIdx.map fun x => (placeV x.1, .int .i64 (x.2 : Int))
structure Mk (B : MkB) (V : MkV) (W : World) : Prop where
  box : W.heap[B.mb]? = some (.cells (mkCells B V).toArray 143 (0, 0))
  cl : B.cls.length = 256
  lo : B.n ≤ B.mb ∧ B.n ≤ B.nb ∧ B.n ≤ B.ab ∧ B.n ≤ B.eb
  dis : B.nb ≠ B.ab ∧ B.nb ≠ B.eb ∧ B.ab ≠ B.eb
  pl : W.ownsRow B.n 150 6 (.slice V.pa V.ps.length V.pc) V.ps.length (V.ps.flatMap placeC)
  num : MapIs Tryz.prog 150 B.nb (numM V.ps) W
  pok : ∀ p ∈ V.ps, PlaceOk p
  al : W.ownsRow B.n 59 3 (.slice V.aa V.acs.length V.ac) V.acs.length (V.acs.flatMap fun x => actC x.2)
  am : MapIs Tryz.prog 3 B.ab (idxM (V.acs.map (·.1))) W
  el : W.ownsRow B.n 57 1 (.slice V.ea V.es.length V.ec) V.es.length (V.es.flatMap fun x => [OutI.v x.2])
  em : MapIs Tryz.prog 3 B.eb (idxM (V.es.map (·.1))) W
  nl : W.ownsRow B.n 64 3 (.slice V.na V.ns.length V.nc) V.ns.length (V.ns.flatMap nodeC)
  imm : Dep (fun k => ¬ Mut B V k ∧ ¬ B.av k) W (ImmW B V)
  avl : ∀ k, B.av k → k < W.heap.size
structure MkF (B : MkB) (V V' : MkV) (W W' : World) : Prop where
  bel : Below B.n W W'
  blk : ∀ k, k < W.heap.size → ¬ Mut B V k → W'.heap[k]? = W.heap[k]?
  sub : ∀ k, k < W.heap.size → Mut B V' k → Mut B V k
section
variable {B : MkB} {V V' V'' : MkV} {W W' W'' : World}
theorem MkF.refl (B : MkB) (V : MkV) (W : World) : MkF B V V W W := ⟨Below.refl _ _, fun _ _ _ => rfl, fun _ _ h => h⟩
theorem MkF.trans (h : MkF B V V' W W') (k : MkF B V' V'' W' W'') : MkF B V V'' W W'' :=
  ⟨h.bel.trans k.bel, fun j hj hn => (k.blk j (Nat.lt_of_lt_of_le hj h.bel.size) (fun e => hn (h.sub j hj e))).trans (h.blk j hj hn), fun j hj hm => h.sub j hj (k.sub j (Nat.lt_of_lt_of_le hj h.bel.size) hm)⟩
theorem MkF.of_below (h : Below W.heap.size W W') (hn : B.n ≤ W.heap.size) : MkF B V V W W' := ⟨h.mono hn, fun j hj _ => h.block j hj, fun _ _ h => h⟩
theorem Mk.cell (h : Mk B V W) {i : Nat} {v : Value} (hv : (mkCells B V)[i]? = some v) : W.cell? ⟨B.mb, i, none⟩ = some v := by
  have := h.box
  simp [World.cell?, this, hv]
theorem Mk.frozen (h : Mk B V W) (i : Nat) : W.frozen? ⟨B.mb, i, none⟩ = false := by
  have := h.box
  simp [World.frozen?, this]
theorem Mk.clo (h : Mk B V W) {i : Nat} {v : Value} (hi : i < 13) (hv : (mkHead B V)[i]? = some v) : W.cell? ⟨B.mb, i, none⟩ = some v := h.cell ((mkCells_lo B V hi).trans hv)
theorem Mk.chi (h : Mk B V W) {j : Nat} {v : Value} (hv : (mkTail V)[j]? = some v) : W.cell? ⟨B.mb, 269 + j, none⟩ = some v := h.cell ((mkCells_hi B V h.cl j).trans hv)
theorem Mk.mlt (h : Mk B V W) : B.mb < W.heap.size := (Array.getElem?_eq_some_iff.1 h.box).1
theorem Mk.nle (h : Mk B V W) : B.n ≤ W.heap.size := by have := h.mlt; have := h.lo.1; omega
theorem Mk.mut_lt (h : Mk B V W) {k : Nat} (hk : Mut B V k) : B.n ≤ k ∧ k < W.heap.size := by
  rcases hk with rfl | rfl | rfl | rfl | hk | hk | hk | hk
  · exact ⟨h.lo.1, h.mlt⟩
  · exact ⟨h.lo.2.1, h.num.lt⟩
  · exact ⟨h.lo.2.2.1, h.am.lt⟩
  · exact ⟨h.lo.2.2.2, h.em.lt⟩
  · exact ⟨(own_ty h.pl hk).1, (own_ty h.pl hk).2.1⟩
  · exact ⟨(own_ty h.al hk).1, (own_ty h.al hk).2.1⟩
  · exact ⟨(own_ty h.el hk).1, (own_ty h.el hk).2.1⟩
  · exact ⟨(own_ty h.nl hk).1, (own_ty h.nl hk).2.1⟩
theorem Mk.free (h : Mk B V W) {k : Nat} (hk : W.heap.size ≤ k) : ¬ Mut B V k := fun hm => by have := h.mut_lt hm; omega
theorem Mk.keep (h : Mk B V W) (hs : W.heap.size ≤ W'.heap.size) (hk : ∀ k, B.n ≤ k → k < W.heap.size → W'.heap[k]? = W.heap[k]?) (hd : ∀ k, k < W.heap.size → W'.heap[k]? = W.heap[k]?) : Mk B V W' :=
  ⟨(hk _ h.lo.1 h.mlt).trans h.box, h.cl, h.lo, h.dis, own_keep h.pl fun k hA => hd k (own_ty h.pl hA).2.1, h.num.same (hd _ h.num.lt), h.pok, own_keep h.al fun k hA => hd k (own_ty h.al hA).2.1, h.am.same (hd _ h.am.lt),
   own_keep h.el fun k hA => hd k (own_ty h.el hA).2.1, h.em.same (hd _ h.em.lt), own_keep h.nl fun k hA => hd k (own_ty h.nl hA).2.1, h.imm.step (fun k _ hl => hd k hl) hs (fun _ hp _ => hp), fun k hk => Nat.lt_of_lt_of_le (h.avl k hk) hs⟩
theorem Mk.below (h : Mk B V W) (hb : Below W.heap.size W W') : Mk B V W' := h.keep hb.size (fun k _ hl => hb.block k hl) fun k hl => hb.block k hl
theorem cellAl {w : World} {p : Addr} {v : Value} (o : Obj) (h : w.cell? p = some v) : (w.alloc o).cell? p = some v := (((Below.refl w.heap.size w).alloc (Nat.le_refl _) o).cell (World.block_lt_of_cell? w p h)).trans h
theorem cells_ne_map {W : World} {a b : Nat} {cs : Array Value} {t : TypeId} {fr : Nat × Nat} {P : Program} {kt : TypeId} {M : List (Value × Value)} (h : W.heap[a]? = some (.cells cs t fr)) (k : MapIs P kt b M W) : a ≠ b := by
  rintro rfl
  obtain ⟨es, clock, hb, _⟩ := k
  rw [h] at hb; cases hb
theorem own_ne_map {W : World} {m sz n c b : Nat} {et : TypeId} {A : Option Addr} {xs : List Value} {P : Program} {kt : TypeId} {M : List (Value × Value)} (h : W.ownsRow m et sz (.slice A n c) n xs) (k : MapIs P kt b M W) : ownA A ≠ some b := fun e => by
  obtain ⟨_, _, cur, hb⟩ := own_ty h e
  exact cells_ne_map hb k rfl
theorem own_ne_cells {W : World} {m sz n c b : Nat} {et t : TypeId} {A : Option Addr} {xs : List Value} {cs : Array Value} {fr : Nat × Nat} (h : W.ownsRow m et sz (.slice A n c) n xs) (k : W.heap[b]? = some (.cells cs t fr)) (ht : et ≠ t) : ownA A ≠ some b := fun e => by
  obtain ⟨_, _, cur, hb⟩ := own_ty h e
  rw [k] at hb
  injection hb with hb; injection hb with _ hb
  exact ht hb.symm
theorem MapIs.congr {P : Program} {kt : TypeId} {b : Nat} {M M' : List (Value × Value)} (h : MapIs P kt b M W) (hn : (M'.map (·.1)).Nodup) (hm : ∀ p, p ∈ M' ↔ p ∈ M) : MapIs P kt b M' W := by
  obtain ⟨es, clock, h1, h2, _, h4⟩ := h
  exact ⟨es, clock, h1, h2, hn, fun p => (hm p).trans (h4 p)⟩
end
theorem tyPM : (150 : TypeId) ≠ 143 := by decide
theorem tyPA : (150 : TypeId) ≠ 59 := by decide
theorem tyPT : (150 : TypeId) ≠ 57 := by decide
theorem tyPN : (150 : TypeId) ≠ 64 := by decide
theorem tyAM : (59 : TypeId) ≠ 143 := by decide
theorem tyAT : (59 : TypeId) ≠ 57 := by decide
theorem tyAN : (59 : TypeId) ≠ 64 := by decide
theorem tyTM : (57 : TypeId) ≠ 143 := by decide
theorem tyTN : (57 : TypeId) ≠ 64 := by decide
theorem tyNM : (64 : TypeId) ≠ 143 := by decide
def putL {α : Type} [DecidableEq α] (l : List α) (x : α) : List α := if x ∈ l then l else l ++ [x]
theorem numM_mem {l : List Place} {k v : Value} : (k, v) ∈ numM l ↔ ∃ (i : Nat) (p : Place), l[i]? = some p ∧ k = placeV p ∧ v = .int .i64 (i : Int) := by
  unfold numM
  rw [List.mem_map]
  constructor
  · rintro ⟨⟨p, i⟩, hm, he⟩
    injection he with h1 h2
    exact ⟨i, p, by simpa using List.mem_zipIdx_iff_getElem?.1 hm, h1.symm, h2.symm⟩
  · rintro ⟨i, p, hp, rfl, rfl⟩
    exact ⟨(p, i), List.mem_zipIdx_iff_getElem?.2 hp, rfl⟩
theorem idxM_mem {l : List Nat} {k v : Value} : (k, v) ∈ idxM l ↔ ∃ (i : Nat) (x : Nat), l[i]? = some x ∧ k = .int .i64 (x : Int) ∧ v = .int .i64 (i : Int) := by
  unfold idxM
  rw [List.mem_map]
  constructor
  · rintro ⟨⟨p, i⟩, hm, he⟩
    injection he with h1 h2
    exact ⟨i, p, by simpa using List.mem_zipIdx_iff_getElem?.1 hm, h1.symm, h2.symm⟩
  · rintro ⟨i, p, hp, rfl, rfl⟩
    exact ⟨(p, i), List.mem_zipIdx_iff_getElem?.2 hp, rfl⟩
theorem numM_fst (l : List Place) : (numM l).map (·.1) = l.map placeV := by
  unfold numM
  rw [List.map_map]
  show (l.zipIdx).map (placeV ∘ Prod.fst) = _
  rw [← List.map_map, List.zipIdx_map_fst]
theorem idxM_fst (l : List Nat) : (idxM l).map (·.1) = l.map fun (x : Nat) => (.int .i64 (x : Int) : Value) := by
  unfold idxM
  rw [List.map_map]
  show (l.zipIdx).map ((fun (x : Nat) => (.int .i64 (x : Int) : Value)) ∘ Prod.fst) = _
  rw [← List.map_map, List.zipIdx_map_fst]
theorem numM_snoc (l : List Place) (p : Place) : numM (l ++ [p]) = numM l ++ [(placeV p, .int .i64 (l.length : Int))] := by
  unfold numM
  rw [List.zipIdx_append, List.map_append]
  simp
theorem idxM_snoc (l : List Nat) (p : Nat) : idxM (l ++ [p]) = idxM l ++ [(.int .i64 (p : Int), .int .i64 (l.length : Int))] := by
  unfold idxM
  rw [List.zipIdx_append, List.map_append]
  simp
theorem mapPut_new {M : List (Value × Value)} {k v : Value} (h : ∀ p ∈ M, p.1 ≠ k) : mapPut M k v = (k, v) :: M := by
  classical
  unfold mapPut
  congr 1
  rw [List.filter_eq_self]
  intro p hp
  simpa using h p hp
end Go.Proofs.YtlmkokeapbleoaaGreat
end
section
namespace Go.Proofs.YtlmkokeapbleoaaGreat
open Go.RowKit
theorem Mk.nodup {B : MkB} {V : MkV} {W : World} (h : Mk B V W) : V.ps.Nodup := by
  obtain ⟨_, _, _, _, h3, _⟩ := h.num
  rw [numM_fst] at h3
  exact nodup_of_map _ h3
theorem idxOf_at {α : Type} [BEq α] [LawfulBEq α] {l : List α} {i : Nat} {x : α} (hn : l.Nodup) (h : l[i]? = some x) : l.idxOf x = i := by
  induction l generalizing i with
  | nil => simp at h
  | cons y l ih =>
    rw [List.nodup_cons] at hn
    cases i with
    | zero => simp at h; subst h; simp
    | succ i =>
      have h' : l[i]? = some x := by simpa using h
      have hne : y ≠ x := fun e => hn.1 (by rw [e]; exact List.mem_of_getElem? h')
      have hb : (y == x) = false := by simpa using hne
      rw [List.idxOf_cons, hb, ih hn.2 h']; rfl
theorem numM_look {B : MkB} {V : MkV} {W : World} (h : Mk B V W) {p : Place} (hp : PlaceOk p) (W' : World) (hW : W'.heap[B.nb]? = W.heap[B.nb]?) :
    (Instr.lookup 139 (.map (some B.nb)) (placeV p) true).run Tryz.prog W' = .ok (.tuple #[.int .i64 (if p ∈ V.ps then (V.ps.idxOf p : Int) else 0), .bool (decide (p ∈ V.ps))]) W' := by
  obtain ⟨kl, hkl⟩ := place_key hp
  have hinj : ∀ q ∈ V.ps, placeV q = placeV p → q = p := fun q hq e => placeV_inj (h.pok q hq).2.1 hp.2.1 e
  rcases (h.num.same hW).look true place_keyed Tryz.underlying139 (Tryz.zeroValue3 W') hkl with ⟨hno, hrun⟩ | ⟨v, hv, hrun⟩
  · have hm : p ∉ V.ps := fun hm => by
      obtain ⟨i, hi⟩ := List.getElem?_of_mem hm
      exact hno _ (numM_mem.2 ⟨i, p, hi, rfl, rfl⟩) rfl
    rw [hrun]; simp [hm]
  · obtain ⟨i, q, hq, hk, rfl⟩ := numM_mem.1 hv
    have hqp := hinj q (List.mem_of_getElem? hq) hk.symm
    subst hqp
    have hm : q ∈ V.ps := List.mem_of_getElem? hq
    rw [hrun]; simp [hm, idxOf_at h.nodup hq]
def withP (V : MkV) (a : Option Addr) (c : Nat) (ps : List Place) : MkV := { V with pa := a, pc := c, ps := ps }
def RetNode (B : MkB) (V : MkV) (p : Place) (W : World) (e : Ending) (W' : World) : Prop :=
  ∃ a c, e = .returned (.int .i64 ((putL V.ps p).idxOf p : Int)) ∧ Hid (Mk B (withP V a c (putL V.ps p)) W') ∧ Hid (MkF B V (withP V a c (putL V.ps p)) W W')
theorem infoPlace : (Tryz.prog.info? 150).map (fun i => (i.zero, i.size, i.bytes)) = some (some (.agg #[.int .i64 0, .int .i64 0, .int .i64 0, .int .i64 0, .int .i64 0, .int .i64 0]), 6, 48) := by kernel_rfl
theorem Mk.afterNode {B : MkB} {V : MkV} {W W3 : World} (h : Mk B V W) {a : Option Addr} {c : Nat} {p : Place} (hp : PlaceOk p) (hs : W.heap.size ≤ W3.heap.size)
    (hk : ∀ k, k < W.heap.size → k ≠ B.mb → k ≠ B.nb → ownA V.pa ≠ some k → W3.heap[k]? = W.heap[k]?)
    (hbox : W3.heap[B.mb]? = some (.cells (mkCells B (withP V a c (V.ps ++ [p]))).toArray 143 (0, 0)))
    (hpl : W3.ownsRow B.n 150 6 (.slice a (V.ps ++ [p]).length c) (V.ps ++ [p]).length ((V.ps ++ [p]).flatMap placeC))
    (hnum : MapIs Tryz.prog 150 B.nb (numM (V.ps ++ [p])) W3) (hnew : ∀ g, ownA a = some g → ownA V.pa = some g ∨ W.heap.size ≤ g) :
    Mk B (withP V a c (V.ps ++ [p])) W3 ∧ ∀ k, k < W.heap.size → Mut B (withP V a c (V.ps ++ [p])) k → Mut B V k := by
  have hsub : ∀ k, k < W.heap.size → Mut B (withP V a c (V.ps ++ [p])) k → Mut B V k := fun k hl hm => by
    rcases hm with e | e | e | e | e | e
    · exact .inl e
    · exact .inr (.inl e)
    · exact .inr (.inr (.inl e))
    · exact .inr (.inr (.inr (.inl e)))
    · rcases hnew k e with e | e
      · exact .inr (.inr (.inr (.inr (.inl e))))
      · omega
    · exact .inr (.inr (.inr (.inr (.inr e))))
  have hmap : ∀ {b : Nat} {kt : TypeId} {M : List (Value × Value)}, MapIs Tryz.prog kt b M W → b ≠ B.nb → MapIs Tryz.prog kt b M W3 := fun k hn => k.same (hk _ k.lt (fun e => cells_ne_map h.box k e.symm) hn (own_ne_map h.pl k))
  refine ⟨⟨hbox, h.cl, h.lo, h.dis, hpl, hnum, fun q hq => ?_, ?_, hmap h.am h.dis.1.symm, ?_, hmap h.em h.dis.2.1.symm, ?_, ?_, fun k hk => Nat.lt_of_lt_of_le (h.avl k hk) hs⟩, hsub⟩
  · rcases List.mem_append.1 hq with hq | hq
    · exact h.pok q hq
    · rw [List.mem_singleton] at hq; subst hq; exact hp
  · exact own_keep h.al fun k hA => hk k (own_ty h.al hA).2.1 (fun e => own_ne_cells h.al h.box tyAM (e ▸ hA)) (fun e => own_ne_map h.al h.num (e ▸ hA)) (fun e => own_apart h.pl h.al tyPA k e hA)
  · exact own_keep h.el fun k hA => hk k (own_ty h.el hA).2.1 (fun e => own_ne_cells h.el h.box tyTM (e ▸ hA)) (fun e => own_ne_map h.el h.num (e ▸ hA)) (fun e => own_apart h.pl h.el tyPT k e hA)
  · exact own_keep h.nl fun k hA => hk k (own_ty h.nl hA).2.1 (fun e => own_ne_cells h.nl h.box tyNM (e ▸ hA)) (fun e => own_ne_map h.nl h.num (e ▸ hA)) (fun e => own_apart h.pl h.nl tyPN k e hA)
  · have h2 := h.imm.step (w' := W3) (P' := fun k => ¬ Mut B (withP V a c (V.ps ++ [p])) k ∧ ¬ B.av k) (fun k hn hl => hk k hl (fun e => hn.1 (.inl e)) (fun e => hn.1 (.inr (.inl e))) (fun e => hn.1 (.inr (.inr (.inr (.inr (.inl e))))))) hs (fun k hn hl => ⟨fun hm => hn.1 (hsub k hl hm), hn.2⟩)
    exact fun U hU => let q := h2 U hU; ⟨q.ls, q.rows, q.fins, q.acs, q.es, q.ns⟩
theorem node_mk (W : World) (B : MkB) (V : MkV) (hM : Hid (Mk B V W)) (p : Place) (hp : PlaceOk p) (s n c0 c1 c2 c3 : Int) (hpc : Hid (placeC p = [.int .i64 s, .int .i64 n, .int .i64 c0, .int .i64 c1, .int .i64 c2, .int .i64 c3])) (hl : V.ps.length ≤ 1048576) :
    Calls Tryz.prog 74 #[.pointer (some ⟨B.mb, 0, none⟩), .agg #[.int .i64 s, .int .i64 n, .int .i64 c0, .int .i64 c1, .int .i64 c2, .int .i64 c3]] W (RetNode B V p W) := by
  have hV : placeV p = .agg #[.int .i64 s, .int .i64 n, .int .i64 c0, .int .i64 c1, .int .i64 c2, .int .i64 c3] := by unfold placeV; rw [hpc.out]
  obtain ⟨wA, hwA⟩ : ∃ z, W.alloc (.cells #[.int .i64 s, .int .i64 n, .int .i64 c0, .int .i64 c1, .int .i64 c2, .int .i64 c3] 150) = z := ⟨_, rfl⟩
  have hbA : Below W.heap.size W wA := by rw [← hwA]; exact (Below.refl _ _).alloc (Nat.le_refl _) _
  have hxA : wA.heap[W.heap.size]? = some (.cells #[.int .i64 s, .int .i64 n, .int .i64 c0, .int .i64 c1, .int .i64 c2, .int .i64 c3] 150 (0, 0)) := by rw [← hwA]; exact heap_alloc_new W _
  have HMA := Lib.hid (hM.out.below hbA)
  have HBA := Lib.hid hbA
  have HXA := Lib.hid hxA
  have HP := Lib.hid hp
  have hm10 := HMA.out.clo (i := 10) (by decide) rfl
  have hm9 := HMA.out.clo (i := 9) (by decide) rfl
  have hb0 : wA.cell? ⟨W.heap.size, 0, none⟩ = some (.int .i64 s) := by simp [World.cell?, hxA]
  have hb1 : wA.cell? ⟨W.heap.size, 1, none⟩ = some (.int .i64 n) := by simp [World.cell?, hxA]
  have hb2 : wA.cell? ⟨W.heap.size, 2, none⟩ = some (.int .i64 c0) := by simp [World.cell?, hxA]
  have hb3 : wA.cell? ⟨W.heap.size, 3, none⟩ = some (.int .i64 c1) := by simp [World.cell?, hxA]
  have hb4 : wA.cell? ⟨W.heap.size, 4, none⟩ = some (.int .i64 c2) := by simp [World.cell?, hxA]
  have hb5 : wA.cell? ⟨W.heap.size, 5, none⟩ = some (.int .i64 c3) := by simp [World.cell?, hxA]
  have hlk : ∀ W', W'.heap[B.nb]? = wA.heap[B.nb]? → (Instr.lookup 139 (.map (some B.nb)) (.agg #[.int .i64 s, .int .i64 n, .int .i64 c0, .int .i64 c1, .int .i64 c2, .int .i64 c3]) true).run Tryz.prog W' = .ok (.tuple #[.int .i64 (if p ∈ V.ps then (V.ps.idxOf p : Int) else 0), .bool (decide (p ∈ V.ps))]) W' := fun W' h => by
    rw [← hV]; exact numM_look HMA.out hp W' h
  clear hbA hxA hp
  by_cases hm : p ∈ V.ps
  · have hlk2 : ∀ k, (Instr.lookup 139 (.map (some B.nb)) (.agg #[.int .i64 s, .int .i64 n, .int .i64 c0, .int .i64 c1, .int .i64 c2, .int .i64 c3]) true).run Tryz.prog (wA.drewN k) = .ok (.tuple #[.int .i64 (V.ps.idxOf p : Int), .bool true]) (wA.drewN k) := fun k => by
      have := hlk (wA.drewN k) rfl
      simpa [hm] using this
    have HIN : Hid (putL V.ps p = V.ps) := Lib.hid (by unfold putL; rw [if_pos hm])
    clear hlk hm hV
    go_enter Tryz.func74, Tryz.ntmps74
    go_wp2_with fail
    go_quiet (fail)
    go_wp2_with fail
    go_ret
    refine ⟨V.pa, V.pc, by rw [HIN.out]; rfl, Lib.hid ?_, Lib.hid ?_⟩
    · rw [HIN.out]; exact HMA.out.below (below_drewN (Below.refl _ _) _)
    · rw [HIN.out]
      exact MkF.of_below (below_drewN HBA.out _) hM.out.nle
  · have hlk2 : ∀ k, (Instr.lookup 139 (.map (some B.nb)) (.agg #[.int .i64 s, .int .i64 n, .int .i64 c0, .int .i64 c1, .int .i64 c2, .int .i64 c3]) true).run Tryz.prog (wA.drewN k) = .ok (.tuple #[.int .i64 0, .bool false]) (wA.drewN k) := fun k => by
      have := hlk (wA.drewN k) rfl
      simpa [hm] using this
    have HIN : Hid (putL V.ps p = V.ps ++ [p]) := Lib.hid (by unfold putL; rw [if_neg hm])
    have HNM := Lib.hid hm
    have HVV := Lib.hid hV
    clear hlk hm hV
    go_enter Tryz.func74, Tryz.ntmps74
    go_wp2_with fail
    go_quiet (fail)
    go_wp2_with fail
    have hbox6 : ∀ w' : World, w'.heap[W.heap.size]? = wA.heap[W.heap.size]? → w'.cell? ⟨W.heap.size, 0, none⟩ = some (.int .i64 s) ∧ w'.cell? ⟨W.heap.size, 1, none⟩ = some (.int .i64 n) ∧ w'.cell? ⟨W.heap.size, 2, none⟩ = some (.int .i64 c0) ∧ w'.cell? ⟨W.heap.size, 3, none⟩ = some (.int .i64 c1) ∧ w'.cell? ⟨W.heap.size, 4, none⟩ = some (.int .i64 c2) ∧ w'.cell? ⟨W.heap.size, 5, none⟩ = some (.int .i64 c3) := fun w' h => by
      have h2 := h.trans HXA.out
      refine ⟨?_, ?_, ?_, ?_, ?_, ?_⟩ <;> simp [World.cell?, h2]
    obtain ⟨w2, hw2⟩ : ∃ z, (wA.drewN nq).drew = z := ⟨_, rfl⟩
    have hh2 : w2.heap = wA.heap := by rw [← hw2]; rfl
    have hb2A : Below wA.heap.size wA w2 := by rw [← hw2]; exact (below_drewN (Below.refl _ _) _).drew
    have HB2A := Lib.hid hb2A
    have HH2 := Lib.hid hh2
    have HX6 := Lib.hid hbox6
    have h210 : w2.cell? ⟨B.mb, 10, none⟩ = some (.map (some B.nb)) := (hb2A.cell (lt_of_cell hm10)).trans hm10
    have h26 := hbox6 w2 (by rw [hh2])
    clear hb0 hb1 hb2 hb3 hb4 hb5 hlk2 hbox6 hh2 hb2A
    refine wp_region_Z 6 (by kernel_rfl) (fun V' => V'.cell? ⟨B.mb, 10, none⟩ = some (.map (some B.nb)) ∧ V'.cell? ⟨W.heap.size, 0, none⟩ = some (.int .i64 s) ∧ V'.cell? ⟨W.heap.size, 1, none⟩ = some (.int .i64 n) ∧ V'.cell? ⟨W.heap.size, 2, none⟩ = some (.int .i64 c0) ∧ V'.cell? ⟨W.heap.size, 3, none⟩ = some (.int .i64 c1) ∧ V'.cell? ⟨W.heap.size, 4, none⟩ = some (.int .i64 c2) ∧ V'.cell? ⟨W.heap.size, 5, none⟩ = some (.int .i64 c3)) (by rw [hw2]; exact ⟨h210, h26⟩) (fun hHeld => ?_)
    refine wpAnyZ_take (i := 0) (v := ?_) rfl (by kernel_rfl) (by kernel_rfl) (by kernel_rfl) (by kernel_rfl) (fun _ _ _ h => h) (Or.inl ⟨by first | kernel_rfl | rfl, ?_⟩) (by assumption) ?_
    rotate_left
    · intro w hSw; (try dsimp only at hSw); go_simp; (try with_reducible rfl)
    (try simp only [Act.put, List.getElem_toArray, List.getElem_cons_succ, List.getElem_cons_zero, List.setIfInBounds_toArray, List.set_cons_zero, List.set_cons_succ])
    refine wpAnyZ_take (i := 1) (v := ?_) rfl (by kernel_rfl) (by kernel_rfl) (by kernel_rfl) (by kernel_rfl) (fun _ _ _ h => h) (Or.inl ⟨by first | kernel_rfl | rfl, ?_⟩) (by assumption) ?_
    rotate_left
    · intro w hSw; (try dsimp only at hSw); go_simp; (try with_reducible rfl)
    (try simp only [Act.put, List.getElem_toArray, List.getElem_cons_succ, List.getElem_cons_zero, List.setIfInBounds_toArray, List.set_cons_zero, List.set_cons_succ])
    refine wpAnyZ_take (i := 2) (v := ?_) rfl (by kernel_rfl) (by kernel_rfl) (by kernel_rfl) (by kernel_rfl) (fun _ _ _ h => h) (Or.inl ⟨by first | kernel_rfl | rfl, ?_⟩) (by assumption) ?_
    rotate_left
    · intro w hSw; (try dsimp only at hSw); go_simp; (try with_reducible rfl)
    (try simp only [Act.put, List.getElem_toArray, List.getElem_cons_succ, List.getElem_cons_zero, List.setIfInBounds_toArray, List.set_cons_zero, List.set_cons_succ])
    refine wpAnyZ_take (i := 3) (v := ?_) rfl (by kernel_rfl) (by kernel_rfl) (by kernel_rfl) (by kernel_rfl) (fun _ _ _ h => h) (Or.inl ⟨by first | kernel_rfl | rfl, ?_⟩) (by assumption) ?_
    rotate_left
    · intro w hSw; (try dsimp only at hSw); go_simp; (try with_reducible rfl)
    (try simp only [Act.put, List.getElem_toArray, List.getElem_cons_succ, List.getElem_cons_zero, List.setIfInBounds_toArray, List.set_cons_zero, List.set_cons_succ])
    refine wpAnyZ_take (i := 4) (v := ?_) rfl (by kernel_rfl) (by kernel_rfl) (by kernel_rfl) (by kernel_rfl) (fun _ _ _ h => h) (Or.inl ⟨by first | kernel_rfl | rfl, ?_⟩) (by assumption) ?_
    rotate_left
    · intro w hSw; (try dsimp only at hSw); go_simp; (try with_reducible rfl)
    (try simp only [Act.put, List.getElem_toArray, List.getElem_cons_succ, List.getElem_cons_zero, List.setIfInBounds_toArray, List.set_cons_zero, List.set_cons_succ])
    refine wpAnyZ_take (i := 5) (v := ?_) rfl (by kernel_rfl) (by kernel_rfl) (by kernel_rfl) (by kernel_rfl) (fun _ _ _ h => h) (Or.inl ⟨by first | kernel_rfl | rfl, ?_⟩) (by assumption) ?_
    rotate_left
    · intro w hSw; (try dsimp only at hSw); go_simp; (try with_reducible rfl)
    (try simp only [Act.put, List.getElem_toArray, List.getElem_cons_succ, List.getElem_cons_zero, List.setIfInBounds_toArray, List.set_cons_zero, List.set_cons_succ])
    rw [hw2]
    obtain ⟨kl, hkl⟩ := place_key HP.out
    obtain ⟨wB, hrun, hMB, hGB, hSB⟩ := (HMA.out.num.same (w' := w2) (by rw [HH2.out])).put place_keyed Tryz.underlying139 (by unfold numM; rw [List.length_map, List.length_zipIdx]; unfold maxLen; omega) (.int .i64 (V.ps.length : Int)) hkl
    rw [HVV.out] at hrun
    have HMB : Hid (MapIs Tryz.prog 150 B.nb (numM (V.ps ++ [p])) wB) := Lib.hid (by
      rw [mapPut_new (fun q hq e => by
        obtain ⟨k, v⟩ := q
        obtain ⟨i, r, hr, hk, _⟩ := numM_mem.1 hq
        have hrm := List.mem_of_getElem? hr
        have := placeV_inj (HMA.out.pok r hrm).2.1 HP.out.2.1 (hk.symm.trans e)
        subst this
        exact HNM.out hrm)] at hMB
      refine hMB.congr ?_ ?_
      · rw [numM_fst, List.map_append]
        have h1 := HMA.out.nodup
        have h2 : ((V.ps ++ [p]).map placeV).Nodup := by
          have hn : (V.ps ++ [p]).Nodup := List.nodup_append.2 ⟨h1, by simp, fun a ha b hb e => HNM.out (by rw [List.mem_singleton] at hb; rw [← hb, ← e]; exact ha)⟩
          unfold List.Nodup
          rw [List.pairwise_map]
          refine List.Pairwise.imp_of_mem (fun {a b} ha hb hne e => hne ?_) hn
          have hok : ∀ q ∈ V.ps ++ [p], q.2.length ≤ 4 := fun q hq => by
            rcases List.mem_append.1 hq with hq | hq
            · exact (HMA.out.pok q hq).2.1
            · rw [List.mem_singleton] at hq; subst hq; exact HP.out.2.1
          exact placeV_inj (hok a ha) (hok b hb) e
        rwa [List.map_append] at h2
      · intro q
        rw [numM_snoc]
        simp only [List.mem_append, List.mem_cons, List.not_mem_nil, or_false]
        exact Or.comm)
    refine wpAnyZ_last (i := 6) rfl (by kernel_rfl) (by kernel_rfl) rfl (fun K hK => ?_)
    refine wp_mapUpdate rfl rfl rfl rfl hrun ?_
    refine hK.out _ _ ?_
    clear hHeld hK K hrun hMB hw2 h210 h26
    (try simp only [Act.put, List.getElem_toArray, List.getElem_cons_succ, List.getElem_cons_zero, List.setIfInBounds_toArray, List.set_cons_zero, List.set_cons_succ])
    have HGB := Lib.hid hGB
    have HSB := Lib.hid hSB
    have hAB : ∀ k, k < wA.heap.size → k ≠ B.nb → wB.heap[k]? = wA.heap[k]? := fun k hk hn => (HGB.out.block k (by rw [HH2.out]; exact hk) (fun e => hn (by injection e))).trans (by rw [HH2.out])
    have HAB := Lib.hid hAB
    have hmn : B.mb ≠ B.nb := cells_ne_map HMA.out.box HMA.out.num
    have hmbB : wB.heap[B.mb]? = some (.cells (mkCells B V).toArray 143 (0, 0)) := (hAB _ HMA.out.mlt hmn).trans HMA.out.box
    have HMBB := Lib.hid hmbB
    have hWA : W.heap.size < wA.heap.size := (Array.getElem?_eq_some_iff.1 HXA.out).1
    have hWn : W.heap.size ≠ B.nb := fun e => by have := hM.out.num.lt; omega
    obtain ⟨w4, hw4⟩ : ∃ z, wB.drew = z := ⟨_, rfl⟩
    have hh4 : w4.heap = wB.heap := by rw [← hw4]; rfl
    have HH4 := Lib.hid hh4
    have h49 : w4.cell? ⟨B.mb, 9, none⟩ = some (.slice V.pa V.ps.length V.pc) := by
      have : w4.heap[B.mb]? = some (.cells (mkCells B V).toArray 143 (0, 0)) := by rw [hh4]; exact hmbB
      simp only [World.cell?, this]; rfl
    have h46 := HX6.out w4 (by rw [hh4]; exact hAB _ hWA hWn)
    clear hGB hSB hAB hmbB hh4
    go_wp2_with fail
    refine wp_region_Z 10 (by kernel_rfl) (fun V' => V'.cell? ⟨B.mb, 9, none⟩ = some (.slice V.pa V.ps.length V.pc) ∧ V'.cell? ⟨W.heap.size, 0, none⟩ = some (.int .i64 s) ∧ V'.cell? ⟨W.heap.size, 1, none⟩ = some (.int .i64 n) ∧ V'.cell? ⟨W.heap.size, 2, none⟩ = some (.int .i64 c0) ∧ V'.cell? ⟨W.heap.size, 3, none⟩ = some (.int .i64 c1) ∧ V'.cell? ⟨W.heap.size, 4, none⟩ = some (.int .i64 c2) ∧ V'.cell? ⟨W.heap.size, 5, none⟩ = some (.int .i64 c3)) (by rw [hw4]; exact ⟨h49, h46⟩) (fun hHeld => ?_)
    refine wpAnyZ_take (i := 0) (v := ?_) rfl (by kernel_rfl) (by kernel_rfl) (by kernel_rfl) (by kernel_rfl) (fun _ _ _ h => h) (Or.inl ⟨by first | kernel_rfl | rfl, ?_⟩) (by assumption) ?_
    rotate_left
    · intro w hSw; (try dsimp only at hSw); go_simp; (try with_reducible rfl)
    (try simp only [Act.put, List.getElem_toArray, List.getElem_cons_succ, List.getElem_cons_zero, List.setIfInBounds_toArray, List.set_cons_zero, List.set_cons_succ])
    refine wpAnyZ_take (i := 1) (v := ?_) rfl (by kernel_rfl) (by kernel_rfl) (by kernel_rfl) (by kernel_rfl) (fun _ _ _ h => h) (Or.inl ⟨by first | kernel_rfl | rfl, ?_⟩) (by assumption) ?_
    rotate_left
    · intro w hSw; (try dsimp only at hSw); go_simp; (try with_reducible rfl)
    (try simp only [Act.put, List.getElem_toArray, List.getElem_cons_succ, List.getElem_cons_zero, List.setIfInBounds_toArray, List.set_cons_zero, List.set_cons_succ])
    refine wpAnyZ_take (i := 2) (v := ?_) rfl (by kernel_rfl) (by kernel_rfl) (by kernel_rfl) (by kernel_rfl) (fun _ _ _ h => h) (Or.inl ⟨by first | kernel_rfl | rfl, ?_⟩) (by assumption) ?_
    rotate_left
    · intro w hSw; (try dsimp only at hSw); go_simp; (try with_reducible rfl)
    (try simp only [Act.put, List.getElem_toArray, List.getElem_cons_succ, List.getElem_cons_zero, List.setIfInBounds_toArray, List.set_cons_zero, List.set_cons_succ])
    refine wpAnyZ_take (i := 3) (v := ?_) rfl (by kernel_rfl) (by kernel_rfl) (by kernel_rfl) (by kernel_rfl) (fun _ _ _ h => h) (Or.inl ⟨by first | kernel_rfl | rfl, ?_⟩) (by assumption) ?_
    rotate_left
    · intro w hSw; (try dsimp only at hSw); go_simp; (try with_reducible rfl)
    (try simp only [Act.put, List.getElem_toArray, List.getElem_cons_succ, List.getElem_cons_zero, List.setIfInBounds_toArray, List.set_cons_zero, List.set_cons_succ])
    refine wpAnyZ_take (i := 4) (v := ?_) rfl (by kernel_rfl) (by kernel_rfl) (by kernel_rfl) (by kernel_rfl) (fun _ _ _ h => h) (Or.inl ⟨by first | kernel_rfl | rfl, ?_⟩) (by assumption) ?_
    rotate_left
    · intro w hSw; (try dsimp only at hSw); go_simp; (try with_reducible rfl)
    (try simp only [Act.put, List.getElem_toArray, List.getElem_cons_succ, List.getElem_cons_zero, List.setIfInBounds_toArray, List.set_cons_zero, List.set_cons_succ])
    refine wpAnyZ_take (i := 5) (v := ?_) rfl (by kernel_rfl) (by kernel_rfl) (by kernel_rfl) (by kernel_rfl) (fun _ _ _ h => h) (Or.inl ⟨by first | kernel_rfl | rfl, ?_⟩) (by assumption) ?_
    rotate_left
    · intro w hSw; (try dsimp only at hSw); go_simp; (try with_reducible rfl)
    (try simp only [Act.put, List.getElem_toArray, List.getElem_cons_succ, List.getElem_cons_zero, List.setIfInBounds_toArray, List.set_cons_zero, List.set_cons_succ])
    rw [hw4]
    refine wpAnyZ_ready (i := 6) (by kernel_rfl) rfl (fun K hK => ?_)
    go_simp
    refine hK.out _ _ (⟨cellAl _ h49, cellAl _ h46.1, cellAl _ h46.2.1, cellAl _ h46.2.2.1, cellAl _ h46.2.2.2.1, cellAl _ h46.2.2.2.2.1, cellAl _ h46.2.2.2.2.2⟩) (fun hHeld => ?_)
    clear hK K
    (try simp only [Act.put, List.getElem_toArray, List.getElem_cons_succ, List.getElem_cons_zero, List.setIfInBounds_toArray, List.set_cons_zero, List.set_cons_succ])
    have HPL : Hid (w4.ownsRow B.n 150 6 (.slice V.pa V.ps.length V.pc) V.ps.length (V.ps.flatMap placeC)) := Lib.hid (own_keep HMA.out.pl fun k hk => by
      rw [HH4.out]
      exact HAB.out k (own_ty HMA.out.pl hk).2.1 (fun e => own_ne_map HMA.out.pl HMA.out.num (e ▸ hk)))
    obtain ⟨i0, hi, hz0, hz1, hz2⟩ := info_parts infoPlace
    have hl40 : V.ps.length < 1099511627776 := by omega
    have hs4 : wA.heap.size ≤ w4.heap.size := by rw [HH4.out, HSB.out, HH2.out]; exact Nat.le_refl _
    have hn4 : B.n ≤ w4.heap.size := Nat.le_trans HMA.out.nle hs4
    refine wpAnyZ_ready (i := 7) (by kernel_rfl) rfl (fun K hK => ?_)
    refine step_pushG rfl _ _ 141 rfl B.n 150 i0 _ 6 48 Tryz.underlying141 hi hz0 hz1 hz2 rfl (by decide) HPL.out rfl [.int .i64 s, .int .i64 n, .int .i64 c0, .int .i64 c1, .int .i64 c2, .int .i64 c3] 150 rfl rfl (by simp [Value.oneCell']) hl40 (by decide) hn4 ?_
    intro A9 c9 w9 HO9 HG9 HN9
    have hpaW : ∀ k, ownA V.pa = some k → k < W.heap.size := fun k hk => (own_ty hM.out.pl hk).2.1
    have hpm : ownA V.pa ≠ some B.mb := own_ne_cells HMA.out.pl HMA.out.box tyPM
    have hpx : ownA V.pa ≠ some W.heap.size := fun e => by have := hpaW _ e; omega
    have h99 : w9.cell? ⟨B.mb, 9, none⟩ = some (.slice V.pa V.ps.length V.pc) := HG9.out.cell (cellAl _ h49) (fun e => hpm e.symm)
    have hgo : ∀ {j : Nat} {v : Value}, w4.cell? ⟨W.heap.size, j, none⟩ = some v → w9.cell? ⟨W.heap.size, j, none⟩ = some v := fun h => HG9.out.cell (cellAl _ h) (fun e => hpx e.symm)
    have h9m : w9.heap[B.mb]? = some (.cells (mkCells B V).toArray 143 (0, 0)) := (HG9.out.block _ (by have := HMA.out.mlt; simp; omega) (fun e => hpm e.symm)).trans ((Below.heap_alloc _ _ _ (by have := HMA.out.mlt; omega)).trans (by rw [HH4.out]; exact HMBB.out))
    have h9f : w9.frozen? ⟨B.mb, 9, none⟩ = false := by simp [World.frozen?, h9m]
    refine hK.out _ _ (⟨h99, hgo h46.1, hgo h46.2.1, hgo h46.2.2.1, hgo h46.2.2.2.1, hgo h46.2.2.2.2.1, hgo h46.2.2.2.2.2⟩) (fun hHeld => ?_)
    clear hK K
    (try simp only [Act.put, List.getElem_toArray, List.getElem_cons_succ, List.getElem_cons_zero, List.setIfInBounds_toArray, List.set_cons_zero, List.set_cons_succ])
    refine wpAnyZ_ready (i := 8) (by kernel_rfl) rfl (fun K hK => ?_)
    go_simp
    refine hK.out _ _ (⟨h99, hgo h46.1, hgo h46.2.1, hgo h46.2.2.1, hgo h46.2.2.2.1, hgo h46.2.2.2.2.1, hgo h46.2.2.2.2.2⟩) (fun hHeld => ?_)
    clear hK K
    (try simp only [Act.put, List.getElem_toArray, List.getElem_cons_succ, List.getElem_cons_zero, List.setIfInBounds_toArray, List.set_cons_zero, List.set_cons_succ])
    refine wpAnyZ_take (i := 9) (v := ?_) rfl (by kernel_rfl) (by kernel_rfl) (by kernel_rfl) (by kernel_rfl) (fun _ _ _ h => h) (Or.inl ⟨by first | kernel_rfl | rfl, ?_⟩) (by assumption) ?_
    rotate_left
    · intro w hSw; (try dsimp only at hSw); go_simp; (try with_reducible rfl)
    (try simp only [Act.put, List.getElem_toArray, List.getElem_cons_succ, List.getElem_cons_zero, List.setIfInBounds_toArray, List.set_cons_zero, List.set_cons_succ])
    refine wpAnyZ_last (i := 10) rfl (by kernel_rfl) (by kernel_rfl) rfl (fun K hK => ?_)
    go_simp
    refine hK.out _ _ ?_
    have HF : Hid (RetNode B V p W (.returned (.int .i64 (V.ps.length : Int))) (w9.setCell ⟨B.mb, 9, none⟩ (.slice A9 (V.ps.length + 1) c9))) := Lib.hid (by
      have hst : ∀ k, k ≠ B.mb → (w9.setCell ⟨B.mb, 9, none⟩ (.slice A9 (V.ps.length + 1) c9)).heap[k]? = w9.heap[k]? := fun k hk => heap_setCell_other _ _ _ _ hk
      have hs9 := HG9.out.size
      simp at hs9
      have hchain : ∀ k, k < wA.heap.size → k ≠ B.mb → k ≠ B.nb → ownA V.pa ≠ some k → (w9.setCell ⟨B.mb, 9, none⟩ (.slice A9 (V.ps.length + 1) c9)).heap[k]? = wA.heap[k]? := fun k hk h1 h2 h3 =>
        (hst k h1).trans ((HG9.out.block k (by simp; omega) (fun e => h3 e.symm)).trans ((Below.heap_alloc _ _ _ (by omega)).trans (by rw [HH4.out]; exact HAB.out k hk h2)))
      have hlen : (V.ps ++ [p]).length = V.ps.length + 1 := by simp
      have hMk := HMA.out.afterNode (W3 := w9.setCell ⟨B.mb, 9, none⟩ (.slice A9 (V.ps.length + 1) c9)) (a := A9) (c := c9) HP.out (by simp; omega) hchain
        (by
          rw [heap_setCell_same w9 B.mb 9 _ _ _ h9m, List.setIfInBounds_toArray, ← hlen]
          rw [mkCells_set9]; rfl)
        (by
          rw [hlen, List.flatMap_append]
          have h := own_keep HO9.out (w' := w9.setCell ⟨B.mb, 9, none⟩ (.slice A9 (V.ps.length + 1) c9)) (fun k hk => hst k (fun e => by
            rcases HN9.out with e2 | ⟨g, e2, hg⟩
            · rw [e2] at hk; exact hpm (e ▸ hk)
            · rw [e2] at hk; injection hk with hk; have := HMA.out.mlt; omega))
          simpa [hpc.out] using h)
        (HMB.out.same ((hst _ (cells_ne_map HMA.out.box HMA.out.num).symm).trans ((HG9.out.block _ (by have := HMA.out.num.lt; simp; omega) (fun e => own_ne_map HMA.out.pl HMA.out.num e.symm)).trans ((Below.heap_alloc _ _ _ (by have := HMA.out.num.lt; omega)).trans (by rw [HH4.out])))))
        (fun g hg => by
          rcases HN9.out with e2 | ⟨q, e2, hq⟩
          · rw [e2] at hg; exact .inl hg
          · rw [e2] at hg; injection hg with hg; right; omega)
      refine ⟨A9, c9, ?_, Lib.hid (by rw [HIN.out]; exact hMk.1), Lib.hid (by
        rw [HIN.out]
        refine ⟨?_, fun k hk hn => ?_, fun k hk hm => hMk.2 k (by have := HBA.out.size; omega) hm⟩
        · have h1 : Below B.n W wB := ((HBA.out.mono hM.out.nle).trans (HB2A.out.mono HMA.out.nle)).grown HGB.out (by rw [HH2.out]; exact HMA.out.nle) (fun k hk => by injection hk with hk; rw [← hk]; exact HMA.out.lo.2.1)
          have h2 : Below B.n W w4 := by rw [← hw4]; exact h1.drew
          exact ((h2.alloc hn4 _).grown HG9.out (by simp; omega) (fun k hk => (own_ty HMA.out.pl hk).1)).setCell HMA.out.lo.1 _
        · exact (hchain k (by have := HBA.out.size; omega) (fun e => hn (.inl e)) (fun e => hn (.inr (.inl e))) (fun e => hn (.inr (.inr (.inr (.inr (.inl e))))))).trans (HBA.out.block k hk))⟩
      rw [HIN.out, idxOf_at (i := V.ps.length) (by
        have := hMk.1.nodup
        exact this) (by simp)])
    clear hHeld hK K h9f h9m hgo h99 hpx hpm hpaW hw4 h49 h46 HO9 HG9 HN9
    (try simp only [Act.put, List.getElem_toArray, List.getElem_cons_succ, List.getElem_cons_zero, List.setIfInBounds_toArray, List.set_cons_zero, List.set_cons_succ])
    go_wp2_with fail
    go_ret
    exact HF.out
end Go.Proofs.YtlmkokeapbleoaaGreat
end
section
namespace Go.Proofs.YtlmkokeapbleoaaGreat
open Go.RowKit
structure LayS where
  ps : List Place
  acts : List Nat
  ends : List Nat
structure Lays (B : MkB) (V : MkV) (S : LayS) : Prop where
  ps : V.ps = S.ps
  acts : V.acs.map (·.1) = S.acts
  ends : V.es.map (·.1) = S.ends
  aok : ∀ x ∈ V.acs, ∃ r, B.d.rs[x.1]? = some r ∧ (r.dst, []) ∈ V.ps ∧ x.2.L = ⟨r.e, V.ps.idxOf (r.dst, []), r.o.L⟩
  eok : ∀ x ∈ V.es, ∃ f, B.d.fs[x.1]? = some f ∧ x.2.L = f.o.L
def putA (B : MkB) (S : LayS) (i : Nat) : LayS := if i ∈ S.acts then S else { S with ps := putL S.ps (((B.d.rs[i]?).map (·.dst)).getD 0, []), acts := S.acts ++ [i] }
def RetLay (B : MkB) (V : MkV) (S' : LayS) (x : Int) (W : World) (e : Ending) (W' : World) : Prop :=
  ∃ V', e = .returned (.int .i64 x) ∧ Hid (Mk B V' W') ∧ Hid (MkF B V V' W W') ∧ Hid (Lays B V' S') ∧ V'.ns = V.ns
theorem idxOf_app {α : Type} [BEq α] [LawfulBEq α] {l m : List α} {x : α} (h : x ∈ l) : (l ++ m).idxOf x = l.idxOf x := by
  induction l with
  | nil => cases h
  | cons y l ih =>
    rw [List.cons_append, List.idxOf_cons, List.idxOf_cons]
    by_cases e : y = x
    · simp [e]
    · have hb : (y == x) = false := by simpa using e
      rw [hb]
      rcases List.mem_cons.1 h with h | h
      · exact absurd h.symm e
      · rw [ih h]
theorem idxOf_put {α : Type} [DecidableEq α] [BEq α] [LawfulBEq α] {l : List α} {x y : α} (h : x ∈ l) : (putL l y).idxOf x = l.idxOf x := by
  unfold putL
  split
  · rfl
  · rw [idxOf_app h]
theorem mem_put {α : Type} [DecidableEq α] {l : List α} {x y : α} : x ∈ putL l y ↔ x ∈ l ∨ x = y := by
  unfold putL
  split
  · rename_i h
    constructor
    · exact .inl
    · rintro (h2 | rfl)
      · exact h2
      · exact h
  · simp
theorem Lays.withP {B : MkB} {V : MkV} {S : LayS} (h : Lays B V S) (a : Option Addr) (c : Nat) (p : Place) : Lays B (withP V a c (putL V.ps p)) { S with ps := putL S.ps p } :=
  ⟨by show putL V.ps p = _; rw [h.ps], h.acts, h.ends, fun x hx => by
    obtain ⟨r, h1, h2, h3⟩ := h.aok x hx
    exact ⟨r, h1, mem_put.2 (.inl h2), by rw [h3]; show _ = (⟨r.e, ((putL V.ps p).idxOf (r.dst, []) : Nat), r.o.L⟩ : ActL); rw [idxOf_put h2]⟩, h.eok⟩
theorem idxM_look {mb : Nat} {l : List Nat} {W : World} (h : MapIs Tryz.prog 3 mb (idxM l) W) (i : Nat) (hi : I64 (i : Int)) (W' : World) (hW : W'.heap[mb]? = W.heap[mb]?) :
    (Instr.lookup 140 (.map (some mb)) (.int .i64 (i : Int)) true).run Tryz.prog W' = .ok (.tuple #[.int .i64 (if i ∈ l then (l.idxOf i : Int) else 0), .bool (decide (i ∈ l))]) W' := by
  have hkl : keyOf Tryz.prog 3 (.int .i64 (i : Int)) = some (.int .i64 (i : Int)) := Maps.keyOf_int_mk Tryz.underlying3 (i64_wf hi)
  have hnd : l.Nodup := by
    obtain ⟨_, _, _, _, h3, _⟩ := h
    rw [idxM_fst] at h3
    exact nodup_of_map _ h3
  rcases (h.same hW).look true (Maps.int_keyed Tryz.underlying3) Tryz.underlying140 (Tryz.zeroValue3 W') hkl with ⟨hno, hrun⟩ | ⟨v, hv, hrun⟩
  · have hm : i ∉ l := fun hm => by
      obtain ⟨j, hj⟩ := List.getElem?_of_mem hm
      exact hno _ (idxM_mem.2 ⟨j, i, hj, rfl, rfl⟩) rfl
    rw [hrun]; simp [hm]
  · obtain ⟨j, q, hq, hk, rfl⟩ := idxM_mem.1 hv
    injection hk with _ hk
    obtain rfl : i = q := by omega
    have hm : i ∈ l := List.mem_of_getElem? hq
    rw [hrun]; simp [hm, idxOf_at hnd hq]
theorem idxM_put {mb : Nat} {l : List Nat} {W : World} (h : MapIs Tryz.prog 3 mb (idxM l) W) (i : Nat) (hi : I64 (i : Int)) (hm : i ∉ l) (hl : l.length ≤ 1048576) :
    ∃ w', (Instr.mapUpdate 140 (.map (some mb)) (.int .i64 (i : Int)) (.int .i64 (l.length : Int))).run Tryz.prog W = .ok () w' ∧ MapIs Tryz.prog 3 mb (idxM (l ++ [i])) w' ∧ W.grownBy w' (some mb) ∧ w'.heap.size = W.heap.size := by
  have hkl : keyOf Tryz.prog 3 (.int .i64 (i : Int)) = some (.int .i64 (i : Int)) := Maps.keyOf_int_mk Tryz.underlying3 (i64_wf hi)
  obtain ⟨w', h1, h2, h3, h4⟩ := h.put (Maps.int_keyed Tryz.underlying3) Tryz.underlying140 (by unfold idxM; rw [List.length_map, List.length_zipIdx]; unfold maxLen; omega) (.int .i64 (l.length : Int)) hkl
  refine ⟨w', h1, ?_, h3, h4⟩
  rw [mapPut_new (fun q hq e => by
    obtain ⟨k, v⟩ := q
    obtain ⟨j, r, hr, hk, _⟩ := idxM_mem.1 hq
    have e2 := hk.symm.trans e
    injection e2 with _ e2
    obtain rfl : r = i := by omega
    exact hm (List.mem_of_getElem? hr))] at h2
  refine h2.congr ?_ ?_
  · obtain ⟨_, _, _, _, h5, _⟩ := h2
    rw [idxM_snoc, List.map_append]
    rw [List.map_cons] at h5
    have := (List.perm_append_singleton (Value.int .i64 (i : Int)) ((idxM l).map (·.1))).nodup_iff.2 h5
    simpa using this
  · intro q
    rw [idxM_snoc]
    simp only [List.mem_append, List.mem_cons, List.not_mem_nil, or_false]
    exact Or.comm
def withA (V : MkV) (a : Option Addr) (c : Nat) (acs : List (Nat × ActI)) : MkV := { V with aa := a, ac := c, acs := acs }
theorem Mk.afterAct {B : MkB} {V : MkV} {W W3 : World} (h : Mk B V W) {a : Option Addr} {c : Nat} {x : Nat × ActI} (hs : W.heap.size ≤ W3.heap.size)
    (hk : ∀ k, k < W.heap.size → k ≠ B.mb → k ≠ B.ab → ownA V.aa ≠ some k → W3.heap[k]? = W.heap[k]?)
    (hbox : W3.heap[B.mb]? = some (.cells (mkCells B (withA V a c (V.acs ++ [x]))).toArray 143 (0, 0)))
    (hal : W3.ownsRow B.n 59 3 (.slice a (V.acs ++ [x]).length c) (V.acs ++ [x]).length ((V.acs ++ [x]).flatMap fun y => actC y.2))
    (ham : MapIs Tryz.prog 3 B.ab (idxM ((V.acs ++ [x]).map (·.1))) W3) (hnew : ∀ g, ownA a = some g → ownA V.aa = some g ∨ W.heap.size ≤ g)
    (hx : Dep (fun k => ¬ Mut B (withA V a c (V.acs ++ [x])) k ∧ ¬ B.av k) W3 (fun W => ActW x.2 W ∧ OutF x.2.o W)) :
    Mk B (withA V a c (V.acs ++ [x])) W3 ∧ ∀ k, k < W.heap.size → Mut B (withA V a c (V.acs ++ [x])) k → Mut B V k := by
  have hsub : ∀ k, k < W.heap.size → Mut B (withA V a c (V.acs ++ [x])) k → Mut B V k := fun k hl hm => by
    rcases hm with e | e | e | e | e | e | e
    · exact .inl e
    · exact .inr (.inl e)
    · exact .inr (.inr (.inl e))
    · exact .inr (.inr (.inr (.inl e)))
    · exact .inr (.inr (.inr (.inr (.inl e))))
    · rcases hnew k e with e | e
      · exact .inr (.inr (.inr (.inr (.inr (.inl e)))))
      · omega
    · exact .inr (.inr (.inr (.inr (.inr (.inr e)))))
  have hmap : ∀ {b : Nat} {kt : TypeId} {M : List (Value × Value)}, MapIs Tryz.prog kt b M W → b ≠ B.ab → MapIs Tryz.prog kt b M W3 := fun k hn => k.same (hk _ k.lt (fun e => cells_ne_map h.box k e.symm) hn (own_ne_map h.al k))
  refine ⟨⟨hbox, h.cl, h.lo, h.dis, ?_, hmap h.num h.dis.1, h.pok, hal, ham, ?_, hmap h.em h.dis.2.2.symm, ?_, ?_, fun k hk => Nat.lt_of_lt_of_le (h.avl k hk) hs⟩, hsub⟩
  · exact own_keep h.pl fun k hA => hk k (own_ty h.pl hA).2.1 (fun e => own_ne_cells h.pl h.box tyPM (e ▸ hA)) (fun e => own_ne_map h.pl h.am (e ▸ hA)) (fun e => own_apart h.pl h.al tyPA k hA e)
  · exact own_keep h.el fun k hA => hk k (own_ty h.el hA).2.1 (fun e => own_ne_cells h.el h.box tyTM (e ▸ hA)) (fun e => own_ne_map h.el h.am (e ▸ hA)) (fun e => own_apart h.al h.el tyAT k e hA)
  · exact own_keep h.nl fun k hA => hk k (own_ty h.nl hA).2.1 (fun e => own_ne_cells h.nl h.box tyNM (e ▸ hA)) (fun e => own_ne_map h.nl h.am (e ▸ hA)) (fun e => own_apart h.al h.nl tyAN k e hA)
  · have h2 := h.imm.step (w' := W3) (P' := fun k => ¬ Mut B (withA V a c (V.acs ++ [x])) k ∧ ¬ B.av k) (fun k hn hl => hk k hl (fun e => hn.1 (.inl e)) (fun e => hn.1 (.inr (.inr (.inl e)))) (fun e => hn.1 (.inr (.inr (.inr (.inr (.inr (.inl e)))))))) hs (fun k hn hl => ⟨fun hm => hn.1 (hsub k hl hm), hn.2⟩)
    exact fun U hU => let q := h2 U hU; ⟨q.ls, q.rows, q.fins, fun y hy => by
      rcases List.mem_append.1 hy with hy | hy
      · exact q.acs y hy
      · rw [List.mem_singleton] at hy; subst hy; exact hx U hU, q.es, q.ns⟩
theorem ownsRow_setN {W : World} {m b c size : Nat} {et : TypeId} {xs : List Value} {n : Nat} (h : W.ownsRow m et size (.slice (some ⟨b, 0, none⟩) n c) n xs) (k : Nat) (v : Value) : (W.setCell ⟨b, k, none⟩ v).ownsRow m et size (.slice (some ⟨b, 0, none⟩) n c) n (xs.set k v) := by
  refine ⟨by simpa using h.1, ?_⟩
  rcases h.2 with ⟨e, _⟩ | ⟨g, cap, cur, e, hg, hh, hc, hm, hs, ht⟩
  · cases e
  · injection e with e1 e2 e3
    injection e1 with e1; injection e1 with e1; subst e1; subst e3
    refine .inr ⟨b, c, cur.setIfInBounds k v, rfl, hg, heap_setCell_same W b k cur et v hh, hc, hm, by simpa using hs, ?_⟩
    rw [Array.toList_setIfInBounds, List.take_set, ht]
theorem act_set (L : List (Nat × ActI)) (i : Nat) (e d0 d1 : Int) (o : OutI) : ((L ++ [(i, (⟨e, d0, o⟩ : ActI))]).flatMap fun y => actC y.2).set (L.length * 3 + 1) (.int .i64 d1) = (L ++ [(i, (⟨e, d1, o⟩ : ActI))]).flatMap fun y => actC y.2 := by
  have hl : (L.flatMap fun y => actC y.2).length = L.length * 3 := by
    induction L with
    | nil => rfl
    | cons y L ih => rw [List.flatMap_cons, List.length_append, ih]; simp [actC]; omega
  rw [List.flatMap_append, List.flatMap_append, set_hi hl]; rfl
theorem Mk.setTo {B : MkB} {V : MkV} {W : World} (h : Mk B V W) {L : List (Nat × ActI)} {i b : Nat} {e d0 : Int} {o : OutI} (hV : V.acs = L ++ [(i, ⟨e, d0, o⟩)]) (hb : V.aa = some ⟨b, 0, none⟩) (d1 : Int) (hd : I64 d1) :
    Mk B (withA V V.aa V.ac (L ++ [(i, ⟨e, d1, o⟩)])) (W.setCell ⟨b, L.length * 3 + 1, none⟩ (.int .i64 d1)) := by
  have hA : ownA V.aa = some b := by rw [hb]; rfl
  have hst : ∀ k, k ≠ b → (W.setCell ⟨b, L.length * 3 + 1, none⟩ (.int .i64 d1)).heap[k]? = W.heap[k]? := fun k hk => heap_setCell_other _ _ _ _ hk
  have hlen : (L ++ [(i, (⟨e, d1, o⟩ : ActI))]).length = V.acs.length := by rw [hV]; simp
  have hmu : ∀ k, Mut B (withA V V.aa V.ac (L ++ [(i, ⟨e, d1, o⟩)])) k ↔ Mut B V k := fun k => Iff.rfl
  refine ⟨?_, h.cl, h.lo, h.dis, ?_, h.num.same (hst B.nb (fun e => own_ne_map h.al h.num (by rw [e]; exact hA))), h.pok, ?_, ?_, ?_, h.em.same (hst B.eb (fun e => own_ne_map h.al h.em (by rw [e]; exact hA))), ?_, ?_, fun k hk => by simpa using h.avl k hk⟩
  · rw [hst B.mb (fun e => own_ne_cells h.al h.box tyAM (by rw [e]; exact hA)), h.box]
    show some (Obj.cells (mkCells B V).toArray _ _) = some (Obj.cells (mkCells B (withA V V.aa V.ac (L ++ [(i, ⟨e, d1, o⟩)]))).toArray _ _)
    unfold mkCells mkTail withA
    rw [show (L ++ [(i, (⟨e, d1, o⟩ : ActI))]).length = V.acs.length from hlen]; rfl
  · exact own_keep h.pl fun k hk => hst k (fun e => own_apart h.pl h.al tyPA k hk (e ▸ hA))
  · have h2 := h.al
    rw [hb] at h2
    have h3 := ownsRow_setN h2 (L.length * 3 + 1) (.int .i64 d1)
    rw [hV, act_set] at h3
    show (W.setCell ⟨b, L.length * 3 + 1, none⟩ (.int .i64 d1)).ownsRow B.n 59 3 (.slice V.aa (L ++ [(i, (⟨e, d1, o⟩ : ActI))]).length V.ac) (L ++ [(i, (⟨e, d1, o⟩ : ActI))]).length _
    rw [hb]
    have e1 : (L ++ [(i, (⟨e, d0, o⟩ : ActI))]).length = (L ++ [(i, (⟨e, d1, o⟩ : ActI))]).length := by simp
    rw [e1] at h3
    exact h3
  · have h2 := h.am.same (w' := W.setCell ⟨b, L.length * 3 + 1, none⟩ (.int .i64 d1)) (hst B.ab (fun e => own_ne_map h.al h.am (by rw [e]; exact hA)))
    rw [hV] at h2
    simpa [withA] using h2
  · exact own_keep h.el fun k hk => hst k (fun e => own_apart h.al h.el tyAT k (e ▸ hA) hk)
  · exact own_keep h.nl fun k hk => hst k (fun e => own_apart h.al h.nl tyAN k (e ▸ hA) hk)
  · have h2 := h.imm.step (w' := W.setCell ⟨b, L.length * 3 + 1, none⟩ (.int .i64 d1)) (P' := fun k => ¬ Mut B (withA V V.aa V.ac (L ++ [(i, ⟨e, d1, o⟩)])) k ∧ ¬ B.av k) (fun k hn _ => hst k (fun e => hn.1 (.inr (.inr (.inr (.inr (.inr (.inl (e ▸ hA))))))))) (by simp) (fun k hn _ => hn)
    exact fun U hU => let q := h2 U hU; ⟨q.ls, q.rows, q.fins, fun y hy => by
      rcases List.mem_append.1 hy with hy | hy
      · exact q.acs y (by rw [hV]; exact List.mem_append.2 (.inl hy))
      · rw [List.mem_singleton] at hy; subst hy
        have h3 := q.acs (i, ⟨e, d0, o⟩) (by rw [hV]; simp)
        exact ⟨⟨⟨h3.1.1.1, hd⟩, h3.1.2⟩, h3.2⟩, q.es, q.ns⟩
end Go.Proofs.YtlmkokeapbleoaaGreat
end
section
namespace Go.Proofs.YtlmkokeapbleoaaGreat
open Go.RowKit
def RuleP (i o n : Int) (r : RuleL) : Prop := StateOk n r.fr ∧ StateOk n r.dst ∧ GuardsOk i r.gs ∧ min (r.gs.length : Int) 1 ≤ r.eat ∧ r.eat ≤ r.gs.length ∧ WritesOk i o r.gs r.out
theorem BoxC.c5 {b : Nat} {v0 v1 v2 v3 v4 : Value} {W : World} (h : BoxC b [v0, v1, v2, v3, v4] W) : W.cell? ⟨b, 0, none⟩ = some v0 ∧ W.cell? ⟨b, 1, none⟩ = some v1 ∧ W.cell? ⟨b, 2, none⟩ = some v2 ∧ W.cell? ⟨b, 3, none⟩ = some v3 ∧ W.cell? ⟨b, 4, none⟩ = some v4 :=
  ⟨h 0 _ rfl, h 1 _ rfl, h 2 _ rfl, h 3 _ rfl, h 4 _ rfl⟩
section
variable {w0 w : World} {F : World → Prop}
theorem rule_st (hK : Hid (St w0 w F)) (i o n s : Int) (ra fa : Option Addr) (rl rc fl fc : Nat) (r : RuleI) (hr : ∀ W, F W → RuleW r W) (v : Bool) (hv : Hid (pB (RuleP i o n r.L) = v)) (hst : ∀ t ∈ r.o.l, StageP t.ps) :
    Calls Tryz.prog 150 #[.agg #[.int .i64 i, .int .i64 o, .int .i64 n, .int .i64 s, .slice ra rl rc, .slice fa fl fc], .agg #[.int .i64 r.fr, .int .i64 r.dst, .slice r.ga r.gs.length r.gc, .int .i64 r.e, .slice r.o.a r.o.l.length r.o.c]] w (RetV w0 (.bool v) F) := by
  have HR := Lib.hid hr
  have HST := Lib.hid hst
  obtain ⟨fr, dst, ga, gc, gs, e, oa, oc, ol⟩ := r
  have hgl := ((hr _ hK.out.now).2.1).2
  simp only at hgl ⊢
  have HK1 := St.box hK [.int .i64 i, .int .i64 o, .int .i64 n, .int .i64 s, .slice ra rl rc, .slice fa fl fc] 26
  have HK := St.box HK1 [.int .i64 fr, .int .i64 dst, .slice ga gs.length gc, .int .i64 e, .slice oa ol.length oc] 102
  have hz : (w.alloc (.cells [.int .i64 i, .int .i64 o, .int .i64 n, .int .i64 s, .slice ra rl rc, .slice fa fl fc].toArray 26)).heap.size = w.heap.size + 1 := by simp
  rw [hz] at HK
  have HV : Hid (pB (RuleP i o n ⟨fr, dst, bodies gs, e, ol.map TermI.L⟩) = v) := hv
  clear hr hst hz HK1 hv
  have hbl : (bodies gs).length = gs.length := bodies_length gs
  obtain ⟨v1, HV1⟩ : ∃ v1, Hid (pB (StateOk n fr) = v1) := ⟨_, rfl⟩
  obtain ⟨v2, HV2⟩ : ∃ v2, Hid (pB (StateOk n dst) = v2) := ⟨_, rfl⟩
  obtain ⟨v3, HV3⟩ : ∃ v3, Hid (pB (GuardsOk i (bodies gs)) = v3) := ⟨_, rfl⟩
  have HBL := Lib.hid hbl
  obtain ⟨p0, p1, p2, p3, p4⟩ := HK.out.now.1.c5
  obtain ⟨q0, q1, q2, q3, q4, q5⟩ := HK.out.now.2.1.c6
  clear hbl
  go_enter Tryz.func150, Tryz.ntmps150
  go_wp2_with fail
  refine (state_st HK i o n s ra fa rl rc fl fc fr v1 HV1).mono ?_
  rintro e w1 ⟨rfl, HK1⟩
  clear p0 p1 p2 p3 p4 q0 q1 q2 q3 q4 q5
  obtain ⟨p0, p1, p2, p3, p4⟩ := HK1.out.now.1.c5
  obtain ⟨q0, q1, q2, q3, q4, q5⟩ := HK1.out.now.2.1.c6
  rcases v1 with _ | _
  · obtain rfl := pB_f HV (fun h => by have := pB_true h.1; rw [HV1.out] at this; cases this)
    go_wp2_with fail
    go_ret
    exact ⟨rfl, Lib.hid (HK1.out.weaken fun _ h => h.2.2)⟩
  go_wp2_with fail
  refine (state_st HK1 i o n s ra fa rl rc fl fc dst v2 HV2).mono ?_
  rintro e w2 ⟨rfl, HK2⟩
  clear p0 p1 p2 p3 p4 q0 q1 q2 q3 q4 q5
  obtain ⟨p0, p1, p2, p3, p4⟩ := HK2.out.now.1.c5
  obtain ⟨q0, q1, q2, q3, q4, q5⟩ := HK2.out.now.2.1.c6
  rcases v2 with _ | _
  · obtain rfl := pB_f HV (fun h => by have := pB_true h.2.1; rw [HV2.out] at this; cases this)
    go_wp2_with fail
    go_ret
    exact ⟨rfl, Lib.hid (HK2.out.weaken fun _ h => h.2.2)⟩
  go_wp2_with fail
  refine (guards_st HK2 i (fun _ h => (HR.out _ h.2.2).2.1.llx) gc v3 HV3).mono ?_
  rintro e w3 ⟨rfl, HK3⟩
  clear p0 p1 p2 p3 p4 q0 q1 q2 q3 q4 q5
  obtain ⟨p0, p1, p2, p3, p4⟩ := HK3.out.now.1.c5
  obtain ⟨q0, q1, q2, q3, q4, q5⟩ := HK3.out.now.2.1.c6
  rcases v3 with _ | _
  · obtain rfl := pB_f HV (fun h => by have := pB_true h.2.2.1; rw [HV3.out] at this; cases this)
    go_wp2_with fail
    go_ret
    exact ⟨rfl, Lib.hid (HK3.out.weaken fun _ h => h.2.2)⟩
  have hg4 : gs.length ≤ 4 := by have := (pB_iff.1 HV3.out).1; rwa [HBL.out] at this
  obtain ⟨m, hm⟩ : ∃ m : Int, min (gs.length : Int) 1 = m := ⟨_, rfl⟩
  by_cases e1 : e < m
  · obtain rfl := pB_f HV (fun h => by have := h.2.2.2.1; simp only [HBL.out] at this; omega)
    go_wp2_with fail
    go_ret
    exact ⟨rfl, Lib.hid (HK3.out.weaken fun _ h => h.2.2)⟩
  by_cases e2 : e ≤ (gs.length : Int)
  case neg =>
    obtain rfl := pB_f HV (fun h => by have := h.2.2.2.2.1; simp only [HBL.out] at this; omega)
    go_wp2_with fail
    go_ret
    exact ⟨rfl, Lib.hid (HK3.out.weaken fun _ h => h.2.2)⟩
  have HE : Hid (pB (WritesOk i o (bodies gs) (ol.map TermI.L)) = v) := by
    unfold Hid
    rw [← HV.out]
    exact pB_congr ⟨fun h => ⟨pB_iff.1 HV1.out, pB_iff.1 HV2.out, pB_iff.1 HV3.out, by simp only [HBL.out]; omega, by simp only [HBL.out]; omega, h⟩, fun h => h.2.2.2.2.2⟩
  go_wp2_with fail
  refine (writes_st HK3 i o n s ra fa rl rc fl fc (fun _ h => (HR.out _ h.2.2).2.2) oc (fun _ h => (HR.out _ h.2.2).2.1.llx) gc hg4 v HE HST.out).mono ?_
  rintro e w4 ⟨rfl, HK4⟩
  go_wp2_with fail
  go_ret
  exact ⟨rfl, Lib.hid (HK4.out.weaken fun _ h => h.2.2)⟩
end
end Go.Proofs.YtlmkokeapbleoaaGreat
end
