/- Contracts of umlautref01.Norm and of umlautlaw01's own great, copied and awake. Condition: lists of fewer than 2^20 spans, whose numbers are ints. -/
import Derived.Test.YtbllbifkckipdaaMinus
import Derived.Test.YtbllbifkckipdaaSame
import Derived.Test.YtbllbifkckipdaaAppend
namespace Go.Proofs.Ytbllbifkckipdaa
open Go.RowKit
set_option linter.unusedVariables false

theorem madeB_self (l : List Sp) (x : Int) : madeB 0 l [] x = true ↔ Mem l x := by
  unfold madeB inHow
  rw [if_neg (by decide), if_neg (by decide)]
  rw [Bool.or_eq_true, hasB_iff, hasB_iff]
  simp [Mem, InS]
theorem rNorm_any (A : Option Addr) (n c : Nat) (l : List Sp) (w : World) (h : Spans w A n l) (hw : SpW l) (hn : n < 1048576) :
    Calls Try.prog 41 #[.slice A n c] w (NewRep w (Mem l)) := by
  have HM := Lib.hid (Make0_any A none n c 0 0 l [] w h (Sl.nil_ _ _ _) hw (fun p hp => by cases hp) hn (by omega))
  clear h
  go_enter Try.func41, Try.ntmps41
  go_wp2_with fail
  refine HM.out.mono ?_
  rintro e w1 ⟨r, ⟨A', n', c', rfl, h1, h2, h3, h4⟩, hr, hl⟩
  go_wp2_with fail
  go_ret
  exact ⟨r, ⟨A', n', c', rfl, h1, h2, h3, h4⟩, hr.congr (madeB_self l), hl⟩

theorem use_newRep {w w' : World} {l r : List Sp} {e : Ending} (h : NewRep w (Mem l) e w') (hr : Rep r (Mem l)) : ∃ A c, e = .returned (.slice A r.length c) ∧ Spans w' A r.length r ∧ Below w.heap.size w w' := by
  obtain ⟨r4, ⟨A4, n4, c4, rfl, hsp4, hc4, hm4, hb4⟩, hr4, hl4⟩ := h
  have e1 : r4 = r := Rep.unique hr4 hr (fun _ => Iff.rfl)
  subst e1
  have := hsp4.len
  subst this
  exact ⟨A4, c4, rfl, hsp4, hb4⟩
theorem Same_self (A B : Option Addr) (n m c d : Nat) (l : List Sp) (w : World) (h : Spans w A n l) (h' : Spans w B m l) (hn : n ≤ 9223372036854775807) (hm : m ≤ 9223372036854775807) : Drawn Try.prog 26 #[.slice A n c, .slice B m d] w (.bool true) :=
  (Same_any A B n c m d l l w h h' hn hm).as (by simp)
theorem Check_rep (A : Option Addr) (n c : Nat) (r : List Sp) (S : Int → Prop) (w : World) (h : Spans w A n r) (hn : n ≤ 9223372036854775806) (hr : Rep r S) : Gives Try.prog 42 #[.slice A n c] w (.bool true) :=
  (Check_any A n c r w h hn).as (by rw [(plainB_iff _ _).2 hr.1])

/-- is one of the slices longer than is asked of? -/
def bigB (L : List (Option Addr × Nat × Nat)) : Bool := L.any fun s => decide (300 < s.2.1)
theorem great_any (b : Nat) (L : List (Option Addr × Nat × Nat)) (w : World) (hL : ∀ j s, L[j]? = some s → w.cell? ⟨b, j, none⟩ = some (.slice s.1 s.2.1 s.2.2)) (hn : L.length < 1000) :
    Calls Try.prog 37 #[.slice (some ⟨b, 0, none⟩) L.length L.length] w fun e w' => e = .returned (.bool (bigB L)) ∧ w = w' := by
  have HL := Lib.hid hL
  clear hL
  go_enter Try.func37, Try.ntmps37
  go_wp2_with fail
  go_loopw [3] (fun i wr => ∃ k : Nat, wr = w ∧ k ≤ L.length ∧ i = .int .i64 k ∧ Hid (bigB (L.take k) = false)) (fun i _ => L.length - (intOf i).toNat)
  case atStart => exact ⟨0, rfl, Nat.zero_le _, rfl, rfl⟩
  case round =>
  obtain ⟨k, rfl, hk, rfl, hbf⟩ := hrel
  by_cases hlt : k < L.length
  · obtain ⟨s, hs⟩ : ∃ s, L[k]? = some s := ⟨_, List.getElem?_eq_getElem hlt⟩
    have hd := HL.out k s hs
    have HS := Lib.hid hs
    obtain ⟨sa, sn, sc⟩ := s
    clear hs
    have e : bigB (L.take (k + 1)) = decide (300 < sn) := by
      rw [take_snoc? HS.out]
      have := hbf.out
      unfold bigB at this ⊢
      rw [List.any_append, this]
      simp
    have E := Lib.hid e
    clear e
    by_cases hbig : 300 < sn
    · go_wp2_with fail
      go_ret
      refine ⟨ret_bool ?_, rfl⟩
      have h2 : L = L.take (k + 1) ++ L.drop (k + 1) := (List.take_append_drop _ _).symm
      symm
      rw [h2]
      have e2 := E.out
      unfold bigB at e2 ⊢
      rw [List.any_append, e2]
      simp [hbig]
    · go_wp2_with fail
      go_roundw
      case rel => exact ⟨k + 1, trivial, by omega, by go_num, by unfold Hid; rw [E.out]; simpa using hbig⟩
      case measure => simp [intOf]; omega
  · have hd : decide (k < L.length) = false := by simpa using hlt
    obtain rfl : k = L.length := by omega
    go_wp2_with fail
    go_ret
    exact ⟨ret_bool (by have := hbf.out; rw [List.take_length] at this; exact this.symm), rfl⟩

theorem copied_any (A : Option Addr) (n c : Nat) (l : List Sp) (w : World) (h : Spans w A n l) (hn : n < 1099511627776) :
    Calls Try.prog 39 #[.slice A n c] w (OwnList w w.heap.size l) := by
  obtain ⟨i0, hi, hz0, hz1, hz2⟩ := info_parts info59
  have hl := h.len
  have ho := World.ownsRow_lit (base := w.heap.size) (e := 59) (size := 2) w #[] 0 (Nat.le_refl _) (by simp) rfl
  have hsl := h.alloc (.cells #[] 59)
  have h1 : ∀ u ∈ spanCells l, u.oneCell' = true := by
    intro u hu
    simp only [spanCells, List.mem_flatMap] at hu
    obtain ⟨p, _, hu⟩ := hu
    simp at hu
    rcases hu with rfl | rfl <;> rfl
  go_enter Try.func39, Try.ntmps39
  go_wp2_with (at_builtin; go_must (refine wpList_append_sl _ rfl _ _ 33 rfl w.heap.size 59 i0 _ 2 16 Try.underlying33 hi hz0 hz1 hz2 rfl (by decide) ho rfl hsl rfl h1 (by unfold maxLen; omega) (by omega) (by simp) ?_); intro v' w2 hown2 hg2)
  have hb2 : Below w.heap.size w w2 := ((Below.refl _ _).alloc (Nat.le_refl _) (.cells #[] 59)).grown hg2 (by simp) (fun k hk => by simp [Value.ownBlock] at hk; omega)
  clear hg2 hsl ho
  go_wp2_with fail
  go_ret
  refine ⟨_, rfl, ?_, hb2⟩
  rw [hl]
  simpa using hown2

theorem spans_lit1 (w : World) (p : Sp) (t : TypeId) : Spans (w.alloc (.cells #[.int .i64 p.1, .int .i64 p.2] t)) (some ⟨w.heap.size, 0, none⟩) 1 [p] := by
  refine ⟨by simp [spanCells], fun _ => ⟨_, 0, rfl, fun j u hu => ?_⟩⟩
  have hb := heap_alloc_new w (.cells #[.int .i64 p.1, .int .i64 p.2] t)
  simp only [World.cell?, hb]
  simpa [spanCells] using hu
theorem rep_awake : Rep [(0, 2), (5, 9)] (fun x => Mem [(0, 9)] x ∧ ¬ Mem [(3, 4)] x) := by
  refine ⟨by simp [Plain, PlainF], fun x => ?_⟩
  simp only [InS, Mem, or_false]
  omega

set_option maxRecDepth 100000 in
set_option maxHeartbeats 4000000 in
theorem awake01_any (w : World) : Gives Try.prog 38 #[] w (.bool true) := by
  have HM := Lib.hid (Minus_any (some ⟨w.heap.size, 0, none⟩) (some ⟨w.heap.size + 1, 0, none⟩) 1 1 1 1 [(0, 9)] [(3, 4)] ((w.alloc (.cells #[.int .i64 0, .int .i64 9] 59)).alloc (.cells #[.int .i64 3, .int .i64 4] 59))
    ((spans_lit1 w (0, 9) _).alloc _) (by have := spans_lit1 (w.alloc (.cells #[.int .i64 0, .int .i64 9] 59)) (3, 4) 59; simpa using this) (by intro p hp; simp at hp; subst hp; simp) (by intro p hp; simp at hp; subst hp; simp) (by omega) (by omega))
  have HB0 : Hid (Below w.heap.size w ((w.alloc (.cells #[.int .i64 0, .int .i64 9] 59)).alloc (.cells #[.int .i64 3, .int .i64 4] 59))) := Lib.hid (((Below.refl _ _).alloc (Nat.le_refl _) _).alloc (by simp) _)
  generalize hw2 : (w.alloc (.cells #[.int .i64 0, .int .i64 9] 59)).alloc (.cells #[.int .i64 3, .int .i64 4] 59) = w2 at HM HB0
  have HW2 := Lib.hid hw2
  clear hw2
  unfold Gives
  go_enter Try.func38, Try.ntmps38
  go_wp2_with (first
    | (go_at_call 52
       rw [HW2.out]
       refine HM.out.mono ?_
       rintro e w3 ⟨r, ho, hr, _⟩
       obtain rfl := Rep.unique hr rep_awake (fun _ => Iff.rfl)
       obtain ⟨v, rfl, ho, hb⟩ := ho
       obtain ⟨g, cap, rfl, hg1, hg2⟩ := ho.form (by simp)
       have hc0 : w3.cell? ⟨g, 0, none⟩ = some (.int .i64 0) := by (rw [ho.cellAt 0 (by simp)]; rfl)
       have hc1 : w3.cell? ⟨g, 1, none⟩ = some (.int .i64 2) := by (rw [ho.cellAt 1 (by simp)]; rfl)
       have hc2 : w3.cell? ⟨g, 2, none⟩ = some (.int .i64 5) := by (rw [ho.cellAt 2 (by simp)]; rfl)
       have hc3 : w3.cell? ⟨g, 3, none⟩ = some (.int .i64 9) := by (rw [ho.cellAt 3 (by simp)]; rfl)
       have hq1 := eqlSpan (0, 2) (0, 2) true rfl
       have hq2 := eqlSpan (5, 9) (5, 9) true rfl
       have hsp : Spans w3 (some ⟨g, 0, none⟩) 2 [(0, 2), (5, 9)] := Sl.of_own ho
       have HCK := Lib.hid (Check_any _ 2 cap _ w3 hsp (by omega))
       have HSP := Lib.hid hsp
       have HB3 := Lib.hid hb
       clear ho hb hr hsp)
    | (go_at_call 42
       refine (HCK.out.out).mono ?_
       rintro e w4 ⟨rfl, hb⟩
       have HCN := Lib.hid (Count_any _ 2 cap _ _ w4 (HSP.out.below hb) (by intro p hp; simp at hp; rcases hp with rfl | rfl <;> simp) (by omega) (Rep.self (rep_awake.1)))
       have HB4 := Lib.hid hb
       clear hb)
    | (go_at_call 62
       refine (HCN.out.out).mono ?_
       rintro e w5 ⟨rfl, hb⟩
       have HB5 := Lib.hid hb
       clear hb))
  go_ret
  exact ⟨ret_bool (by decide), below_to HB0.out (below_to HB3.out (below_to HB4.out HB5.out))⟩
end Go.Proofs.Ytbllbifkckipdaa
