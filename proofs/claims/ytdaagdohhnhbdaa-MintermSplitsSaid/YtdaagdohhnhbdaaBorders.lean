/- Contract of umlautref01.borders: the numbers at which something may begin or end, rising. Condition: lists of fewer than 2^20 spans, whose numbers are ints. -/
import Derived.Test.YtdaagdohhnhbdaaPut
namespace Go.Proofs.Ytdaagdohhnhbdaa
open Go.RowKit
set_option linter.unusedVariables false

/-- what holds of the borders of the spans that are done -/
def BInv (done : List Sp) (ys : List Int) : Prop :=
  Rise ys ∧ (-1073741824) ∈ ys ∧ (∀ y ∈ ys, -1073741824 ≤ y ∧ y ≤ 1073741824) ∧
  (∀ p ∈ done, (-1073741824 < p.1 → p.1 ≤ 1073741824 → p.1 ∈ ys) ∧ (-1073741824 ≤ p.2 → p.2 < 1073741824 → p.2 + 1 ∈ ys)) ∧ ys.length ≤ 2 * done.length + 1
theorem BInv.start : BInv [] [-1073741824] := by
  refine ⟨fun i j x y hij hx hy => ?_, by simp, by simp, by simp, by simp⟩
  have := (List.getElem?_eq_some_iff.1 hy).1
  simp at this; omega
theorem BInv.step00 {done : List Sp} {ys : List Int} {p : Sp} (h : BInv done ys) (c1 : ¬ (-1073741824 < p.1 ∧ p.1 ≤ 1073741824)) (c2 : ¬ (-1073741824 ≤ p.2 ∧ p.2 < 1073741824)) : BInv (done ++ [p]) ys := by
  obtain ⟨h1, h2, h3, h4, h5⟩ := h
  refine ⟨h1, h2, h3, fun q hq => ?_, by simp; omega⟩
  rcases List.mem_append.1 hq with hq | hq
  · exact h4 q hq
  · simp at hq; subst hq; exact ⟨fun a b => absurd ⟨a, b⟩ c1, fun a b => absurd ⟨a, b⟩ c2⟩
theorem BInv.step10 {done : List Sp} {ys zs : List Int} {p : Sp} (h : BInv done ys) (c1 : -1073741824 < p.1 ∧ p.1 ≤ 1073741824) (c2 : ¬ (-1073741824 ≤ p.2 ∧ p.2 < 1073741824))
    (g1 : Rise zs) (g2 : ∀ y, y ∈ zs ↔ y = p.1 ∨ y ∈ ys) (g3 : zs.length ≤ ys.length + 1) : BInv (done ++ [p]) zs := by
  obtain ⟨h1, h2, h3, h4, h5⟩ := h
  refine ⟨g1, (g2 _).2 (.inr h2), fun y hy => ?_, fun q hq => ?_, by simp; omega⟩
  · rcases (g2 y).1 hy with rfl | hy
    · omega
    · exact h3 y hy
  · rcases List.mem_append.1 hq with hq | hq
    · exact ⟨fun a b => (g2 _).2 (.inr ((h4 q hq).1 a b)), fun a b => (g2 _).2 (.inr ((h4 q hq).2 a b))⟩
    · simp at hq; subst hq; exact ⟨fun a b => (g2 _).2 (.inl rfl), fun a b => absurd ⟨a, b⟩ c2⟩
theorem BInv.step01 {done : List Sp} {ys zs : List Int} {p : Sp} (h : BInv done ys) (c1 : ¬ (-1073741824 < p.1 ∧ p.1 ≤ 1073741824)) (c2 : -1073741824 ≤ p.2 ∧ p.2 < 1073741824)
    (g1 : Rise zs) (g2 : ∀ y, y ∈ zs ↔ y = p.2 + 1 ∨ y ∈ ys) (g3 : zs.length ≤ ys.length + 1) : BInv (done ++ [p]) zs := by
  obtain ⟨h1, h2, h3, h4, h5⟩ := h
  refine ⟨g1, (g2 _).2 (.inr h2), fun y hy => ?_, fun q hq => ?_, by simp; omega⟩
  · rcases (g2 y).1 hy with rfl | hy
    · omega
    · exact h3 y hy
  · rcases List.mem_append.1 hq with hq | hq
    · exact ⟨fun a b => (g2 _).2 (.inr ((h4 q hq).1 a b)), fun a b => (g2 _).2 (.inr ((h4 q hq).2 a b))⟩
    · simp at hq; subst hq; exact ⟨fun a b => absurd ⟨a, b⟩ c1, fun a b => (g2 _).2 (.inl rfl)⟩
theorem BInv.step11 {done : List Sp} {ys zs us : List Int} {p : Sp} (h : BInv done ys) (c1 : -1073741824 < p.1 ∧ p.1 ≤ 1073741824) (c2 : -1073741824 ≤ p.2 ∧ p.2 < 1073741824)
    (g2 : ∀ y, y ∈ zs ↔ y = p.1 ∨ y ∈ ys) (g3 : zs.length ≤ ys.length + 1)
    (k1 : Rise us) (k2 : ∀ y, y ∈ us ↔ y = p.2 + 1 ∨ y ∈ zs) (k3 : us.length ≤ zs.length + 1) : BInv (done ++ [p]) us := by
  obtain ⟨h1, h2, h3, h4, h5⟩ := h
  refine ⟨k1, (k2 _).2 (.inr ((g2 _).2 (.inr h2))), fun y hy => ?_, fun q hq => ?_, by simp; omega⟩
  · rcases (k2 y).1 hy with rfl | hy
    · omega
    · rcases (g2 y).1 hy with rfl | hy
      · omega
      · exact h3 y hy
  · rcases List.mem_append.1 hq with hq | hq
    · exact ⟨fun a b => (k2 _).2 (.inr ((g2 _).2 (.inr ((h4 q hq).1 a b)))), fun a b => (k2 _).2 (.inr ((g2 _).2 (.inr ((h4 q hq).2 a b))))⟩
    · simp at hq; subst hq; exact ⟨fun a b => (k2 _).2 (.inr ((g2 _).2 (.inl rfl))), fun a b => (k2 _).2 (.inl rfl)⟩
def BPost (w : World) (a b : List Sp) (e : Ending) (w' : World) : Prop :=
  ∃ ys, NewInts .i64 w ys e w' ∧ BInv (a ++ b) ys

set_option maxRecDepth 100000 in
set_option maxHeartbeats 8000000 in
theorem borders_any (A B : Option Addr) (n c m d : Nat) (a b : List Sp) (w : World) (h : Spans w A n a) (h' : Spans w B m b) (hw : SpW a) (hw' : SpW b) (hn : n < 1048576) (hm : m < 1048576) :
    Calls Try.prog 96 #[.slice A n c, .slice B m d] w (BPost w a b) := by
  have HA := Lib.hid h
  have HB := Lib.hid h'
  have HWA := Lib.hid hw
  have HWB := Lib.hid hw'
  have hla := Lib.hid h.len
  have hlb := Lib.hid h'.len
  clear h h' hw hw'
  have hlit : Hid ((w.alloc (.cells #[.int .i64 (-1073741824)] 3)).ownsRow w.heap.size 3 1 (.slice (some ⟨w.heap.size, 0, none⟩) 1 1) 1 ([(-1073741824 : Int)].map (Value.int .i64))) :=
    World.ownsRow_lit w #[.int .i64 (-1073741824)] 1 (Nat.le_refl _) (by unfold maxLen; omega) rfl
  have hb0 : Below w.heap.size w (w.alloc (.cells #[.int .i64 (-1073741824)] 3)) := (Below.refl _ w).alloc (Nat.le_refl _) _
  go_enter Try.func96, Try.ntmps96
  go_wp2_with fail
  go_loopw [5, 6] (fun v kk wr => ∃ (k : Nat) (ys : List Int), (kk = .int .i64 0 ∧ k = 0 ∨ kk = .int .i64 1 ∧ k = 1 ∨ kk = .int .i64 2 ∧ k = 2) ∧ wr.ownsRow w.heap.size 3 1 v ys.length (ys.map (Value.int .i64)) ∧ Below w.heap.size w wr ∧ Hid (BInv (if k = 0 then [] else if k = 1 then a else a ++ b) ys)) (fun _ kk _ => 2 - (intOf kk).toNat)
  case atStart => exact ⟨0, [-1073741824], .inl ⟨rfl, rfl⟩, hlit.out, hb0, BInv.start⟩
  case round =>
  obtain ⟨k, ys, hk, hown, hbel, hinv⟩ := hrel
  clear hb0 hlit
  rcases hk with ⟨rfl, rfl⟩ | ⟨rfl, rfl⟩ | ⟨rfl, rfl⟩
  · have HI0 : Hid (BInv ([]) ys) := hinv.out
    clear hinv
    go_wp2_with fail
    go_loopw [5, 8] (fun v i wr => ∃ (j : Nat) (ys : List Int), j ≤ n ∧ i = .int .i64 j ∧ wr.ownsRow w.heap.size 3 1 v ys.length (ys.map (Value.int .i64)) ∧ Below w.heap.size w wr ∧ Hid (BInv (a.take j) ys)) (fun _ i _ => n - (intOf i).toNat)
    case atStart => exact ⟨0, ys, Nat.zero_le _, rfl, hown, hbel, Lib.hid (by simpa using HI0.out)⟩
    case round =>
    clear hown hbel HI0
    clear ys
    obtain ⟨j, ys, hj, rfl, hown, hbel, hinv⟩ := hrel
    have HO := Lib.hid hown
    have HBE := Lib.hid hbel
    have hyl : ys.length < 2097152 + 2097152 + 10 := by
      have h1 := hinv.out.2.2.2.2
      have h2 := hla.out
      have h3 := hlb.out
      simp only [List.length_take] at h1
      omega
    have HYL := Lib.hid hyl
    clear hown hbel hyl
    by_cases hlt : j < n
    · obtain ⟨g, off, p, rfl, hx, hc1, hc2⟩ := HA.out.at_ hlt
      obtain ⟨⟨p1, p2⟩, p3, p4⟩ := HWA.out p (List.mem_of_getElem? hx)
      have hd1 := (HBE.out.cell (lt_of_cell hc1)).trans hc1
      have hd2 := (HBE.out.cell (lt_of_cell hc2)).trans hc2
      have HX := Lib.hid (take_snoc? hx)
      clear hx
      by_cases c1 : -1073741824 < p.1 ∧ p.1 ≤ 1073741824
      · have hput := Lib.hid (put_any w.heap.size _ ys p.1 wr HO.out hinv.out.1 (by have := HYL.out; omega) HBE.out.size (by omega) (by omega))
        by_cases c2 : -1073741824 ≤ p.2 ∧ p.2 < 1073741824
        · go_wp2_with fail
          refine hput.out.mono ?_
          rintro e w2 ⟨v2, zs, rfl, hown2, g1, g2, g3, hb2⟩
          have e1 := (hb2.cell (lt_of_below HBE.out hc1)).trans hd1
          have e2 := (hb2.cell (lt_of_below HBE.out hc2)).trans hd2
          have hput2 := Lib.hid (put_any w.heap.size _ zs (p.2 + 1) w2 hown2 g1 (by have := HYL.out; omega) (HBE.out.trans hb2).size (by omega) (by omega))
          have G1 := Lib.hid g1
          have G2 := Lib.hid g2
          have G3 := Lib.hid g3
          have HB2 := Lib.hid (HBE.out.trans hb2)
          clear hown2 g1 g2 g3 hb2 hd1 hd2 hc1 hc2
          go_wp2_with fail
          refine hput2.out.mono ?_
          rintro e w3 ⟨v3, us, rfl, hown3, k1, k2, k3, hb3⟩
          have HO3 := Lib.hid hown3
          have HI3 := Lib.hid (hinv.out.step11 c1 c2 G2.out G3.out k1 k2 k3)
          have HB3 := Lib.hid (HB2.out.trans hb3)
          clear hown3 k1 k2 k3 hb3 e1 e2
          go_wp2_with fail
          go_roundw
          case rel => exact ⟨j + 1, us, by omega, by go_num, HO3.out, HB3.out, Lib.hid (by rw [HX.out]; exact HI3.out)⟩
          case measure => simp [intOf]; omega
        · go_wp2_with fail
          refine hput.out.mono ?_
          rintro e w2 ⟨v2, zs, rfl, hown2, g1, g2, g3, hb2⟩
          have e1 := (hb2.cell (lt_of_below HBE.out hc1)).trans hd1
          have e2 := (hb2.cell (lt_of_below HBE.out hc2)).trans hd2
          have HO3 := Lib.hid hown2
          have HI3 := Lib.hid (hinv.out.step10 c1 c2 g1 g2 g3)
          have HB3 := Lib.hid (HBE.out.trans hb2)
          clear hown2 g1 g2 g3 hb2 hd1 hd2 hc1 hc2
          go_wp2_with fail
          all_goals
            go_roundw
            case rel => exact ⟨j + 1, zs, by omega, by go_num, HO3.out, HB3.out, Lib.hid (by rw [HX.out]; exact HI3.out)⟩
            case measure => simp [intOf]; omega
      · by_cases c2 : -1073741824 ≤ p.2 ∧ p.2 < 1073741824
        · have hput2 := Lib.hid (put_any w.heap.size _ ys (p.2 + 1) wr HO.out hinv.out.1 (by have := HYL.out; omega) HBE.out.size (by omega) (by omega))
          clear hc1 hc2
          go_wp2_with fail
          all_goals
            refine hput2.out.mono ?_
            rintro e w3 ⟨v3, us, rfl, hown3, k1, k2, k3, hb3⟩
            have HO3 := Lib.hid hown3
            have HI3 := Lib.hid (hinv.out.step01 c1 c2 k1 k2 k3)
            have HB3 := Lib.hid (HBE.out.trans hb3)
            clear hown3 k1 k2 k3 hb3 hd1 hd2
            go_wp2_with fail
            go_roundw
            case rel => exact ⟨j + 1, us, by omega, by go_num, HO3.out, HB3.out, Lib.hid (by rw [HX.out]; exact HI3.out)⟩
            case measure => simp [intOf]; omega
        · have HI3 := Lib.hid (hinv.out.step00 c1 c2)
          clear hc1 hc2
          go_wp2_with fail
          all_goals
            go_roundw
            case rel => exact ⟨j + 1, ys, by omega, by go_num, HO.out, HBE.out, Lib.hid (by rw [HX.out]; exact HI3.out)⟩
            case measure => simp [intOf]; omega
    · have hd : decide (j < n) = false := by simpa using hlt
      go_wp2_with fail
      go_roundw
      case rel => exact ⟨1, ys, .inr (.inl ⟨rfl, rfl⟩), HO.out, HBE.out, Lib.hid (by have := hinv.out; rw [List.take_of_length_le (by have := hla.out; omega)] at this; exact this)⟩
      case measure => simp [intOf]
  · have HI0 : Hid (BInv (a) ys) := hinv.out
    clear hinv
    go_wp2_with fail
    go_loopw [5, 8] (fun v i wr => ∃ (j : Nat) (ys : List Int), j ≤ m ∧ i = .int .i64 j ∧ wr.ownsRow w.heap.size 3 1 v ys.length (ys.map (Value.int .i64)) ∧ Below w.heap.size w wr ∧ Hid (BInv (a ++ b.take j) ys)) (fun _ i _ => m - (intOf i).toNat)
    case atStart => exact ⟨0, ys, Nat.zero_le _, rfl, hown, hbel, Lib.hid (by simpa using HI0.out)⟩
    case round =>
    clear hown hbel HI0
    clear ys
    obtain ⟨j, ys, hj, rfl, hown, hbel, hinv⟩ := hrel
    have HO := Lib.hid hown
    have HBE := Lib.hid hbel
    have hyl : ys.length < 2097152 + 2097152 + 10 := by
      have h1 := hinv.out.2.2.2.2
      have h2 := hla.out
      have h3 := hlb.out
      simp only [List.length_append, List.length_take] at h1
      omega
    have HYL := Lib.hid hyl
    clear hown hbel hyl
    by_cases hlt : j < m
    · obtain ⟨g, off, p, rfl, hx, hc1, hc2⟩ := HB.out.at_ hlt
      obtain ⟨⟨p1, p2⟩, p3, p4⟩ := HWB.out p (List.mem_of_getElem? hx)
      have hd1 := (HBE.out.cell (lt_of_cell hc1)).trans hc1
      have hd2 := (HBE.out.cell (lt_of_cell hc2)).trans hc2
      have HX := Lib.hid (take_snoc? hx)
      clear hx
      by_cases c1 : -1073741824 < p.1 ∧ p.1 ≤ 1073741824
      · have hput := Lib.hid (put_any w.heap.size _ ys p.1 wr HO.out hinv.out.1 (by have := HYL.out; omega) HBE.out.size (by omega) (by omega))
        by_cases c2 : -1073741824 ≤ p.2 ∧ p.2 < 1073741824
        · go_wp2_with fail
          refine hput.out.mono ?_
          rintro e w2 ⟨v2, zs, rfl, hown2, g1, g2, g3, hb2⟩
          have e1 := (hb2.cell (lt_of_below HBE.out hc1)).trans hd1
          have e2 := (hb2.cell (lt_of_below HBE.out hc2)).trans hd2
          have hput2 := Lib.hid (put_any w.heap.size _ zs (p.2 + 1) w2 hown2 g1 (by have := HYL.out; omega) (HBE.out.trans hb2).size (by omega) (by omega))
          have G1 := Lib.hid g1
          have G2 := Lib.hid g2
          have G3 := Lib.hid g3
          have HB2 := Lib.hid (HBE.out.trans hb2)
          clear hown2 g1 g2 g3 hb2 hd1 hd2 hc1 hc2
          go_wp2_with fail
          refine hput2.out.mono ?_
          rintro e w3 ⟨v3, us, rfl, hown3, k1, k2, k3, hb3⟩
          have HO3 := Lib.hid hown3
          have HI3 := Lib.hid (hinv.out.step11 c1 c2 G2.out G3.out k1 k2 k3)
          have HB3 := Lib.hid (HB2.out.trans hb3)
          clear hown3 k1 k2 k3 hb3 e1 e2
          go_wp2_with fail
          go_roundw
          case rel => exact ⟨j + 1, us, by omega, by go_num, HO3.out, HB3.out, Lib.hid (by rw [HX.out]; rw [← List.append_assoc]; exact HI3.out)⟩
          case measure => simp [intOf]; omega
        · go_wp2_with fail
          refine hput.out.mono ?_
          rintro e w2 ⟨v2, zs, rfl, hown2, g1, g2, g3, hb2⟩
          have e1 := (hb2.cell (lt_of_below HBE.out hc1)).trans hd1
          have e2 := (hb2.cell (lt_of_below HBE.out hc2)).trans hd2
          have HO3 := Lib.hid hown2
          have HI3 := Lib.hid (hinv.out.step10 c1 c2 g1 g2 g3)
          have HB3 := Lib.hid (HBE.out.trans hb2)
          clear hown2 g1 g2 g3 hb2 hd1 hd2 hc1 hc2
          go_wp2_with fail
          all_goals
            go_roundw
            case rel => exact ⟨j + 1, zs, by omega, by go_num, HO3.out, HB3.out, Lib.hid (by rw [HX.out]; rw [← List.append_assoc]; exact HI3.out)⟩
            case measure => simp [intOf]; omega
      · by_cases c2 : -1073741824 ≤ p.2 ∧ p.2 < 1073741824
        · have hput2 := Lib.hid (put_any w.heap.size _ ys (p.2 + 1) wr HO.out hinv.out.1 (by have := HYL.out; omega) HBE.out.size (by omega) (by omega))
          clear hc1 hc2
          go_wp2_with fail
          all_goals
            refine hput2.out.mono ?_
            rintro e w3 ⟨v3, us, rfl, hown3, k1, k2, k3, hb3⟩
            have HO3 := Lib.hid hown3
            have HI3 := Lib.hid (hinv.out.step01 c1 c2 k1 k2 k3)
            have HB3 := Lib.hid (HBE.out.trans hb3)
            clear hown3 k1 k2 k3 hb3 hd1 hd2
            go_wp2_with fail
            go_roundw
            case rel => exact ⟨j + 1, us, by omega, by go_num, HO3.out, HB3.out, Lib.hid (by rw [HX.out]; rw [← List.append_assoc]; exact HI3.out)⟩
            case measure => simp [intOf]; omega
        · have HI3 := Lib.hid (hinv.out.step00 c1 c2)
          clear hc1 hc2
          go_wp2_with fail
          all_goals
            go_roundw
            case rel => exact ⟨j + 1, ys, by omega, by go_num, HO.out, HBE.out, Lib.hid (by rw [HX.out]; rw [← List.append_assoc]; exact HI3.out)⟩
            case measure => simp [intOf]; omega
    · have hd : decide (j < m) = false := by simpa using hlt
      go_wp2_with fail
      go_roundw
      case rel => exact ⟨2, ys, .inr (.inr ⟨rfl, rfl⟩), HO.out, HBE.out, Lib.hid (by have := hinv.out; rw [List.take_of_length_le (by have := hlb.out; omega)] at this; exact this)⟩
      case measure => simp [intOf]
  · have HO := Lib.hid hown
    have HBE := Lib.hid hbel
    clear hown hbel
    go_wp2_with fail
    go_ret
    exact ⟨ys, NewInts.of_own HO.out HBE.out, hinv.out⟩
end Go.Proofs.Ytdaagdohhnhbdaa
