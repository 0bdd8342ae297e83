/- Contract of umlautref01.borders: the numbers at which something may begin or end, rising. Condition: lists of fewer than 2^20 spans, whose numbers are ints. The plain law of umlautref01.Make: between two borders all numbers are alike. No program in sight. Condition: none. Contract of umlautref01.Make: the plain list of two sets' union, of what they have in common, or of what the first has alone. Condition: lists of fewer than 2^20 spans, whose numbers are ints. -/
import Derived.Test.YtpmhdjiacgckjaaM02
import Derived.Deep.RegionWith
section
namespace Go.Proofs.Ytpmhdjiacgckjaa
open Go.RowKit
set_option linter.unusedVariables false

/-- what holds of the borders of the spans that are done -/
def BInv (done : List Sp) (ys : List Int) : Prop :=
  Rise ys ∧ (-1073741824) ∈ ys ∧ (∀ y ∈ ys, -1073741824 ≤ y ∧ y ≤ 1073741824) ∧
  (∀ p ∈ done, (-1073741824 < p.1 → p.1 ≤ 1073741824 → p.1 ∈ ys) ∧ (-1073741824 ≤ p.2 → p.2 < 1073741824 → p.2 + 1 ∈ ys)) ∧ ys.length ≤ 2 * done.length + 1
theorem BInv.start : BInv [] [-1073741824] := by
  refine ⟨fun i j x y hij hx hy => ?_, by simp, by simp, by simp, by simp⟩
  have := (List.getElem?_eq_some_iff.1 hy).1
  simp at this; omega
theorem BInv.step00 {done : List Sp} {ys : List Int} {p : Sp} (h : BInv done ys) (c1 : ¬ (-1073741824 < p.1 ∧ p.1 ≤ 1073741824)) (c2 : ¬ (-1073741824 ≤ p.2 ∧ p.2 < 1073741824)) : BInv (done ++ [p]) ys := by
  obtain ⟨h1, h2, h3, h4, h5⟩ := h
  refine ⟨h1, h2, h3, fun q hq => ?_, by simp; omega⟩
  rcases List.mem_append.1 hq with hq | hq
  · exact h4 q hq
  · simp at hq; subst hq; exact ⟨fun a b => absurd ⟨a, b⟩ c1, fun a b => absurd ⟨a, b⟩ c2⟩
theorem BInv.step10 {done : List Sp} {ys zs : List Int} {p : Sp} (h : BInv done ys) (c1 : -1073741824 < p.1 ∧ p.1 ≤ 1073741824) (c2 : ¬ (-1073741824 ≤ p.2 ∧ p.2 < 1073741824))
    (g1 : Rise zs) (g2 : ∀ y, y ∈ zs ↔ y = p.1 ∨ y ∈ ys) (g3 : zs.length ≤ ys.length + 1) : BInv (done ++ [p]) zs := by
  obtain ⟨h1, h2, h3, h4, h5⟩ := h
  refine ⟨g1, (g2 _).2 (.inr h2), fun y hy => ?_, fun q hq => ?_, by simp; omega⟩
  · rcases (g2 y).1 hy with rfl | hy
    · omega
    · exact h3 y hy
  · rcases List.mem_append.1 hq with hq | hq
    · exact ⟨fun a b => (g2 _).2 (.inr ((h4 q hq).1 a b)), fun a b => (g2 _).2 (.inr ((h4 q hq).2 a b))⟩
    · simp at hq; subst hq; exact ⟨fun a b => (g2 _).2 (.inl rfl), fun a b => absurd ⟨a, b⟩ c2⟩
theorem BInv.step01 {done : List Sp} {ys zs : List Int} {p : Sp} (h : BInv done ys) (c1 : ¬ (-1073741824 < p.1 ∧ p.1 ≤ 1073741824)) (c2 : -1073741824 ≤ p.2 ∧ p.2 < 1073741824)
    (g1 : Rise zs) (g2 : ∀ y, y ∈ zs ↔ y = p.2 + 1 ∨ y ∈ ys) (g3 : zs.length ≤ ys.length + 1) : BInv (done ++ [p]) zs := by
  obtain ⟨h1, h2, h3, h4, h5⟩ := h
  refine ⟨g1, (g2 _).2 (.inr h2), fun y hy => ?_, fun q hq => ?_, by simp; omega⟩
  · rcases (g2 y).1 hy with rfl | hy
    · omega
    · exact h3 y hy
  · rcases List.mem_append.1 hq with hq | hq
    · exact ⟨fun a b => (g2 _).2 (.inr ((h4 q hq).1 a b)), fun a b => (g2 _).2 (.inr ((h4 q hq).2 a b))⟩
    · simp at hq; subst hq; exact ⟨fun a b => absurd ⟨a, b⟩ c1, fun a b => (g2 _).2 (.inl rfl)⟩
theorem BInv.step11 {done : List Sp} {ys zs us : List Int} {p : Sp} (h : BInv done ys) (c1 : -1073741824 < p.1 ∧ p.1 ≤ 1073741824) (c2 : -1073741824 ≤ p.2 ∧ p.2 < 1073741824)
    (g2 : ∀ y, y ∈ zs ↔ y = p.1 ∨ y ∈ ys) (g3 : zs.length ≤ ys.length + 1)
    (k1 : Rise us) (k2 : ∀ y, y ∈ us ↔ y = p.2 + 1 ∨ y ∈ zs) (k3 : us.length ≤ zs.length + 1) : BInv (done ++ [p]) us := by
  obtain ⟨h1, h2, h3, h4, h5⟩ := h
  refine ⟨k1, (k2 _).2 (.inr ((g2 _).2 (.inr h2))), fun y hy => ?_, fun q hq => ?_, by simp; omega⟩
  · rcases (k2 y).1 hy with rfl | hy
    · omega
    · rcases (g2 y).1 hy with rfl | hy
      · omega
      · exact h3 y hy
  · rcases List.mem_append.1 hq with hq | hq
    · exact ⟨fun a b => (k2 _).2 (.inr ((g2 _).2 (.inr ((h4 q hq).1 a b)))), fun a b => (k2 _).2 (.inr ((g2 _).2 (.inr ((h4 q hq).2 a b))))⟩
    · simp at hq; subst hq; exact ⟨fun a b => (k2 _).2 (.inr ((g2 _).2 (.inl rfl))), fun a b => (k2 _).2 (.inl rfl)⟩
def BPost (w : World) (a b : List Sp) (e : Ending) (w' : World) : Prop :=
  ∃ ys, NewInts .i64 w ys e w' ∧ BInv (a ++ b) ys

set_option maxRecDepth 100000 in
set_option maxHeartbeats 8000000 in
theorem borders_any (A B : Option Addr) (n c m d : Nat) (a b : List Sp) (w : World) (h : Spans w A n a) (h' : Spans w B m b) (hw : SpW a) (hw' : SpW b) (hn : n < 1048576) (hm : m < 1048576) :
    Calls Try.prog 44 #[.slice A n c, .slice B m d] w (BPost w a b) := by
  have HA := Lib.hid h
  have HB := Lib.hid h'
  have HWA := Lib.hid hw
  have HWB := Lib.hid hw'
  have hla := Lib.hid h.len
  have hlb := Lib.hid h'.len
  clear h h' hw hw'
  have hlit : Hid ((w.alloc (.cells #[.int .i64 (-1073741824)] 3)).ownsRow w.heap.size 3 1 (.slice (some ⟨w.heap.size, 0, none⟩) 1 1) 1 ([(-1073741824 : Int)].map (Value.int .i64))) :=
    World.ownsRow_lit w #[.int .i64 (-1073741824)] 1 (Nat.le_refl _) (by unfold maxLen; omega) rfl
  have hb0 : Below w.heap.size w (w.alloc (.cells #[.int .i64 (-1073741824)] 3)) := (Below.refl _ w).alloc (Nat.le_refl _) _
  go_enter Try.func44, Try.ntmps44
  go_wp2_with fail
  go_loopw [5, 6] (fun v kk wr => ∃ (k : Nat) (ys : List Int), (kk = .int .i64 0 ∧ k = 0 ∨ kk = .int .i64 1 ∧ k = 1 ∨ kk = .int .i64 2 ∧ k = 2) ∧ wr.ownsRow w.heap.size 3 1 v ys.length (ys.map (Value.int .i64)) ∧ Below w.heap.size w wr ∧ Hid (BInv (if k = 0 then [] else if k = 1 then a else a ++ b) ys)) (fun _ kk _ => 2 - (intOf kk).toNat)
  case atStart => exact ⟨0, [-1073741824], .inl ⟨rfl, rfl⟩, hlit.out, hb0, BInv.start⟩
  case round =>
  obtain ⟨k, ys, hk, hown, hbel, hinv⟩ := hrel
  clear hb0 hlit
  rcases hk with ⟨rfl, rfl⟩ | ⟨rfl, rfl⟩ | ⟨rfl, rfl⟩
  · have HI0 : Hid (BInv ([]) ys) := hinv.out
    clear hinv
    go_wp2_with fail
    go_loopw [5, 8] (fun v i wr => ∃ (j : Nat) (ys : List Int), j ≤ n ∧ i = .int .i64 j ∧ wr.ownsRow w.heap.size 3 1 v ys.length (ys.map (Value.int .i64)) ∧ Below w.heap.size w wr ∧ Hid (BInv (a.take j) ys)) (fun _ i _ => n - (intOf i).toNat)
    case atStart => exact ⟨0, ys, Nat.zero_le _, rfl, hown, hbel, Lib.hid (by simpa using HI0.out)⟩
    case round =>
    clear hown hbel HI0
    clear ys
    obtain ⟨j, ys, hj, rfl, hown, hbel, hinv⟩ := hrel
    have HO := Lib.hid hown
    have HBE := Lib.hid hbel
    have hyl : ys.length < 2097152 + 2097152 + 10 := by
      have h1 := hinv.out.2.2.2.2
      have h2 := hla.out
      have h3 := hlb.out
      simp only [List.length_take] at h1
      omega
    have HYL := Lib.hid hyl
    clear hown hbel hyl
    by_cases hlt : j < n
    · obtain ⟨g, off, p, rfl, hx, hc1, hc2⟩ := HA.out.at_ hlt
      obtain ⟨⟨p1, p2⟩, p3, p4⟩ := HWA.out p (List.mem_of_getElem? hx)
      have hd1 := (HBE.out.cell (lt_of_cell hc1)).trans hc1
      have hd2 := (HBE.out.cell (lt_of_cell hc2)).trans hc2
      have HX := Lib.hid (take_snoc? hx)
      clear hx
      by_cases c1 : -1073741824 < p.1 ∧ p.1 ≤ 1073741824
      · have hput := Lib.hid (put_any w.heap.size _ ys p.1 wr HO.out hinv.out.1 (by have := HYL.out; omega) HBE.out.size (by omega) (by omega))
        by_cases c2 : -1073741824 ≤ p.2 ∧ p.2 < 1073741824
        · go_wp2_with fail
          refine hput.out.mono ?_
          rintro e w2 ⟨v2, zs, rfl, hown2, g1, g2, g3, hb2⟩
          have e1 := (hb2.cell (lt_of_below HBE.out hc1)).trans hd1
          have e2 := (hb2.cell (lt_of_below HBE.out hc2)).trans hd2
          have hput2 := Lib.hid (put_any w.heap.size _ zs (p.2 + 1) w2 hown2 g1 (by have := HYL.out; omega) (HBE.out.trans hb2).size (by omega) (by omega))
          have G1 := Lib.hid g1
          have G2 := Lib.hid g2
          have G3 := Lib.hid g3
          have HB2 := Lib.hid (HBE.out.trans hb2)
          clear hown2 g1 g2 g3 hb2 hd1 hd2 hc1 hc2
          go_wp2_with fail
          refine hput2.out.mono ?_
          rintro e w3 ⟨v3, us, rfl, hown3, k1, k2, k3, hb3⟩
          have HO3 := Lib.hid hown3
          have HI3 := Lib.hid (hinv.out.step11 c1 c2 G2.out G3.out k1 k2 k3)
          have HB3 := Lib.hid (HB2.out.trans hb3)
          clear hown3 k1 k2 k3 hb3 e1 e2
          go_wp2_with fail
          go_roundw
          case rel => exact ⟨j + 1, us, by omega, by go_num, HO3.out, HB3.out, Lib.hid (by rw [HX.out]; exact HI3.out)⟩
          case measure => simp [intOf]; omega
        · go_wp2_with fail
          refine hput.out.mono ?_
          rintro e w2 ⟨v2, zs, rfl, hown2, g1, g2, g3, hb2⟩
          have e1 := (hb2.cell (lt_of_below HBE.out hc1)).trans hd1
          have e2 := (hb2.cell (lt_of_below HBE.out hc2)).trans hd2
          have HO3 := Lib.hid hown2
          have HI3 := Lib.hid (hinv.out.step10 c1 c2 g1 g2 g3)
          have HB3 := Lib.hid (HBE.out.trans hb2)
          clear hown2 g1 g2 g3 hb2 hd1 hd2 hc1 hc2
          go_wp2_with fail
          all_goals
            go_roundw
            case rel => exact ⟨j + 1, zs, by omega, by go_num, HO3.out, HB3.out, Lib.hid (by rw [HX.out]; exact HI3.out)⟩
            case measure => simp [intOf]; omega
      · by_cases c2 : -1073741824 ≤ p.2 ∧ p.2 < 1073741824
        · have hput2 := Lib.hid (put_any w.heap.size _ ys (p.2 + 1) wr HO.out hinv.out.1 (by have := HYL.out; omega) HBE.out.size (by omega) (by omega))
          clear hc1 hc2
          go_wp2_with fail
          all_goals
            refine hput2.out.mono ?_
            rintro e w3 ⟨v3, us, rfl, hown3, k1, k2, k3, hb3⟩
            have HO3 := Lib.hid hown3
            have HI3 := Lib.hid (hinv.out.step01 c1 c2 k1 k2 k3)
            have HB3 := Lib.hid (HBE.out.trans hb3)
            clear hown3 k1 k2 k3 hb3 hd1 hd2
            go_wp2_with fail
            go_roundw
            case rel => exact ⟨j + 1, us, by omega, by go_num, HO3.out, HB3.out, Lib.hid (by rw [HX.out]; exact HI3.out)⟩
            case measure => simp [intOf]; omega
        · have HI3 := Lib.hid (hinv.out.step00 c1 c2)
          clear hc1 hc2
          go_wp2_with fail
          all_goals
            go_roundw
            case rel => exact ⟨j + 1, ys, by omega, by go_num, HO.out, HBE.out, Lib.hid (by rw [HX.out]; exact HI3.out)⟩
            case measure => simp [intOf]; omega
    · have hd : decide (j < n) = false := by simpa using hlt
      go_wp2_with fail
      go_roundw
      case rel => exact ⟨1, ys, .inr (.inl ⟨rfl, rfl⟩), HO.out, HBE.out, Lib.hid (by have := hinv.out; rw [List.take_of_length_le (by have := hla.out; omega)] at this; exact this)⟩
      case measure => simp [intOf]
  · have HI0 : Hid (BInv (a) ys) := hinv.out
    clear hinv
    go_wp2_with fail
    go_loopw [5, 8] (fun v i wr => ∃ (j : Nat) (ys : List Int), j ≤ m ∧ i = .int .i64 j ∧ wr.ownsRow w.heap.size 3 1 v ys.length (ys.map (Value.int .i64)) ∧ Below w.heap.size w wr ∧ Hid (BInv (a ++ b.take j) ys)) (fun _ i _ => m - (intOf i).toNat)
    case atStart => exact ⟨0, ys, Nat.zero_le _, rfl, hown, hbel, Lib.hid (by simpa using HI0.out)⟩
    case round =>
    clear hown hbel HI0
    clear ys
    obtain ⟨j, ys, hj, rfl, hown, hbel, hinv⟩ := hrel
    have HO := Lib.hid hown
    have HBE := Lib.hid hbel
    have hyl : ys.length < 2097152 + 2097152 + 10 := by
      have h1 := hinv.out.2.2.2.2
      have h2 := hla.out
      have h3 := hlb.out
      simp only [List.length_append, List.length_take] at h1
      omega
    have HYL := Lib.hid hyl
    clear hown hbel hyl
    by_cases hlt : j < m
    · obtain ⟨g, off, p, rfl, hx, hc1, hc2⟩ := HB.out.at_ hlt
      obtain ⟨⟨p1, p2⟩, p3, p4⟩ := HWB.out p (List.mem_of_getElem? hx)
      have hd1 := (HBE.out.cell (lt_of_cell hc1)).trans hc1
      have hd2 := (HBE.out.cell (lt_of_cell hc2)).trans hc2
      have HX := Lib.hid (take_snoc? hx)
      clear hx
      by_cases c1 : -1073741824 < p.1 ∧ p.1 ≤ 1073741824
      · have hput := Lib.hid (put_any w.heap.size _ ys p.1 wr HO.out hinv.out.1 (by have := HYL.out; omega) HBE.out.size (by omega) (by omega))
        by_cases c2 : -1073741824 ≤ p.2 ∧ p.2 < 1073741824
        · go_wp2_with fail
          refine hput.out.mono ?_
          rintro e w2 ⟨v2, zs, rfl, hown2, g1, g2, g3, hb2⟩
          have e1 := (hb2.cell (lt_of_below HBE.out hc1)).trans hd1
          have e2 := (hb2.cell (lt_of_below HBE.out hc2)).trans hd2
          have hput2 := Lib.hid (put_any w.heap.size _ zs (p.2 + 1) w2 hown2 g1 (by have := HYL.out; omega) (HBE.out.trans hb2).size (by omega) (by omega))
          have G1 := Lib.hid g1
          have G2 := Lib.hid g2
          have G3 := Lib.hid g3
          have HB2 := Lib.hid (HBE.out.trans hb2)
          clear hown2 g1 g2 g3 hb2 hd1 hd2 hc1 hc2
          go_wp2_with fail
          refine hput2.out.mono ?_
          rintro e w3 ⟨v3, us, rfl, hown3, k1, k2, k3, hb3⟩
          have HO3 := Lib.hid hown3
          have HI3 := Lib.hid (hinv.out.step11 c1 c2 G2.out G3.out k1 k2 k3)
          have HB3 := Lib.hid (HB2.out.trans hb3)
          clear hown3 k1 k2 k3 hb3 e1 e2
          go_wp2_with fail
          go_roundw
          case rel => exact ⟨j + 1, us, by omega, by go_num, HO3.out, HB3.out, Lib.hid (by rw [HX.out]; rw [← List.append_assoc]; exact HI3.out)⟩
          case measure => simp [intOf]; omega
        · go_wp2_with fail
          refine hput.out.mono ?_
          rintro e w2 ⟨v2, zs, rfl, hown2, g1, g2, g3, hb2⟩
          have e1 := (hb2.cell (lt_of_below HBE.out hc1)).trans hd1
          have e2 := (hb2.cell (lt_of_below HBE.out hc2)).trans hd2
          have HO3 := Lib.hid hown2
          have HI3 := Lib.hid (hinv.out.step10 c1 c2 g1 g2 g3)
          have HB3 := Lib.hid (HBE.out.trans hb2)
          clear hown2 g1 g2 g3 hb2 hd1 hd2 hc1 hc2
          go_wp2_with fail
          all_goals
            go_roundw
            case rel => exact ⟨j + 1, zs, by omega, by go_num, HO3.out, HB3.out, Lib.hid (by rw [HX.out]; rw [← List.append_assoc]; exact HI3.out)⟩
            case measure => simp [intOf]; omega
      · by_cases c2 : -1073741824 ≤ p.2 ∧ p.2 < 1073741824
        · have hput2 := Lib.hid (put_any w.heap.size _ ys (p.2 + 1) wr HO.out hinv.out.1 (by have := HYL.out; omega) HBE.out.size (by omega) (by omega))
          clear hc1 hc2
          go_wp2_with fail
          all_goals
            refine hput2.out.mono ?_
            rintro e w3 ⟨v3, us, rfl, hown3, k1, k2, k3, hb3⟩
            have HO3 := Lib.hid hown3
            have HI3 := Lib.hid (hinv.out.step01 c1 c2 k1 k2 k3)
            have HB3 := Lib.hid (HBE.out.trans hb3)
            clear hown3 k1 k2 k3 hb3 hd1 hd2
            go_wp2_with fail
            go_roundw
            case rel => exact ⟨j + 1, us, by omega, by go_num, HO3.out, HB3.out, Lib.hid (by rw [HX.out]; rw [← List.append_assoc]; exact HI3.out)⟩
            case measure => simp [intOf]; omega
        · have HI3 := Lib.hid (hinv.out.step00 c1 c2)
          clear hc1 hc2
          go_wp2_with fail
          all_goals
            go_roundw
            case rel => exact ⟨j + 1, ys, by omega, by go_num, HO.out, HBE.out, Lib.hid (by rw [HX.out]; rw [← List.append_assoc]; exact HI3.out)⟩
            case measure => simp [intOf]; omega
    · have hd : decide (j < m) = false := by simpa using hlt
      go_wp2_with fail
      go_roundw
      case rel => exact ⟨2, ys, .inr (.inr ⟨rfl, rfl⟩), HO.out, HBE.out, Lib.hid (by have := hinv.out; rw [List.take_of_length_le (by have := hlb.out; omega)] at this; exact this)⟩
      case measure => simp [intOf]
  · have HO := Lib.hid hown
    have HBE := Lib.hid hbel
    clear hown hbel
    go_wp2_with fail
    go_ret
    exact ⟨ys, NewInts.of_own HO.out HBE.out, hinv.out⟩
end Go.Proofs.Ytpmhdjiacgckjaa
end
section
namespace Go.Proofs.Ytpmhdjiacgckjaa
open Go.RowKit
set_option linter.unusedVariables false

def inHow (how : Int) (x y : Bool) : Bool := if how = 1 then x && y else if how = 2 then x && !y else x || y
/-- is a number in what is made? -/
def madeB (how : Int) (a b : List Sp) (x : Int) : Bool := inHow how (hasB a x) (hasB b x)
def lim (ys : List Int) (i : Nat) : Int := (ys[i]?).getD 1073741825

theorem hasB_next {done : List Sp} {ys : List Int} (h : BInv done ys) (a : List Sp) (ha : ∀ p ∈ a, p ∈ done) (x : Int) (hx0 : -1073741824 ≤ x) (hx1 : x < 1073741824) (hn : x + 1 ∉ ys) : hasB a x = hasB a (x + 1) := by
  rw [Bool.eq_iff_iff, hasB_iff, hasB_iff]
  unfold Mem
  have key : InS a x ↔ InS a (x + 1) := by
    rw [InS_iff, InS_iff]
    constructor
    · rintro ⟨p, hp, h1, h2⟩
      refine ⟨p, hp, by omega, ?_⟩
      have := (h.2.2.2.1 p (ha p hp)).2
      by_cases e : p.2 = x
      · exact absurd (e ▸ this (by omega) (by omega)) hn
      · omega
    · rintro ⟨p, hp, h1, h2⟩
      refine ⟨p, hp, ?_, by omega⟩
      have := (h.2.2.2.1 p (ha p hp)).1
      by_cases e : p.1 = x + 1
      · exact absurd (e ▸ this (by omega) (by omega)) hn
      · omega
  rw [key]
  exact ⟨fun ⟨_, _, g⟩ => ⟨by omega, by omega, g⟩, fun ⟨_, _, g⟩ => ⟨by omega, by omega, g⟩⟩
theorem lim_lt {ys : List Int} (h : Rise ys) (hb : ∀ y ∈ ys, -1073741824 ≤ y ∧ y ≤ 1073741824) (i : Nat) (y : Int) (hi : ys[i]? = some y) : y < lim ys (i + 1) ∧ lim ys (i + 1) ≤ 1073741825 := by
  unfold lim
  cases e : ys[i + 1]? with
  | none => have := hb y (List.mem_of_getElem? hi); simp; omega
  | some z =>
    have := h i (i + 1) y z (by omega) hi e
    have := hb z (List.mem_of_getElem? e)
    simp; omega
theorem no_border {ys : List Int} (h : Rise ys) (i : Nat) (y x : Int) (hi : ys[i]? = some y) (h1 : y < x) (h2 : x < lim ys (i + 1)) : x ∉ ys := by
  intro hx
  obtain ⟨j, hj⟩ := List.getElem?_of_mem hx
  rcases Nat.lt_trichotomy i j with g | g | g
  · unfold lim at h2
    rcases Nat.lt_trichotomy (i + 1) j with g' | g' | g'
    · have hl := (List.getElem?_eq_some_iff.1 hj).1
      have e : ys[i + 1]? = some (ys[i + 1]'(by omega)) := List.getElem?_eq_getElem (by omega)
      have := h (i + 1) j _ x g' e hj
      rw [e] at h2; simp at h2; omega
    · subst g'; rw [hj] at h2; simp at h2
    · omega
  · subst g; rw [hi] at hj; simp at hj; omega
  · have := h j i x y g hj hi; omega
theorem alike {done : List Sp} {ys : List Int} (h : BInv done ys) (a : List Sp) (ha : ∀ p ∈ a, p ∈ done) (i : Nat) (y : Int) (hi : ys[i]? = some y) (d : Nat) (hd : y + d < lim ys (i + 1)) : hasB a (y + d) = hasB a y := by
  induction d with
  | zero => simp
  | succ d ih =>
    have hy := h.2.2.1 y (List.mem_of_getElem? hi)
    have hl := lim_lt h.1 h.2.2.1 i y hi
    rw [← ih (by omega)]
    have := hasB_next h a ha (y + d) (by omega) (by omega) (no_border h.1 i y _ hi (by omega) (by omega))
    rw [this]
    congr 1
    omega
theorem made_alike {a b : List Sp} {ys : List Int} (how : Int) (h : BInv (a ++ b) ys) (i : Nat) (y x : Int) (hi : ys[i]? = some y) (h1 : y ≤ x) (h2 : x < lim ys (i + 1)) : madeB how a b x = madeB how a b y := by
  unfold madeB
  obtain ⟨d, rfl⟩ : ∃ d : Nat, x = y + d := ⟨(x - y).toNat, by omega⟩
  rw [alike h a (fun p hp => by simp [hp]) i y hi d h2, alike h b (fun p hp => by simp [hp]) i y hi d h2]

/-- what holds of what has been made below a border -/
def MInv (how : Int) (a b : List Sp) (ys : List Int) (i : Nat) (out : List Sp) : Prop := Plain out ∧ (∀ x, InS out x ↔ (madeB how a b x = true ∧ x < lim ys i)) ∧ out.length ≤ i
theorem made_low (how : Int) (a b : List Sp) (x : Int) (h : madeB how a b x = true) : -1073741824 ≤ x ∧ x ≤ 1073741824 := by
  have key : ∀ l : List Sp, hasB l x = true → -1073741824 ≤ x ∧ x ≤ 1073741824 := fun l hl => ⟨((hasB_iff l x).1 hl).1, ((hasB_iff l x).1 hl).2.1⟩
  unfold madeB inHow at h
  split at h
  · simp at h; exact key a h.1
  split at h
  · simp at h; exact key a h.1
  · simp at h; rcases h with h | h
    · exact key a h
    · exact key b h
theorem MInv.start (how : Int) (a b : List Sp) (ys : List Int) (h : BInv (a ++ b) ys) : MInv how a b ys 0 [] := by
  refine ⟨trivial, fun x => ?_, by simp⟩
  simp only [InS, false_iff, not_and]
  intro hx hl
  have := made_low how a b x hx
  obtain ⟨j, hj⟩ := List.getElem?_of_mem h.2.1
  have hne : lim ys 0 ≤ -1073741824 := by
    unfold lim
    cases e : ys[0]? with
    | none => have h2 := (List.getElem?_eq_some_iff.1 hj).1; rw [List.getElem?_eq_none_iff] at e; omega
    | some z =>
      simp
      rcases Nat.eq_zero_or_pos j with g | g
      · subst g; rw [hj] at e; simp at e; omega
      · have := h.1 0 j z _ g e hj; omega
  omega
theorem InS_split {ys : List Int} {how : Int} {a b : List Sp} {i : Nat} {y : Int} (h : BInv (a ++ b) ys) (hi : ys[i]? = some y) {out : List Sp} (hm : MInv how a b ys i out) (x : Int) :
    (madeB how a b x = true ∧ x < lim ys (i + 1)) ↔ (InS out x ∨ (madeB how a b y = true ∧ y ≤ x ∧ x < lim ys (i + 1))) := by
  have hl := lim_lt h.1 h.2.2.1 i y hi
  have e : lim ys i = y := by unfold lim; rw [hi]; rfl
  rw [hm.2.1 x, e]
  constructor
  · rintro ⟨h1, h2⟩
    by_cases g : x < y
    · exact .inl ⟨h1, g⟩
    · exact .inr ⟨(made_alike how h i y x hi (by omega) h2) ▸ h1, by omega, h2⟩
  · rintro (⟨h1, h2⟩ | ⟨h1, h2, h3⟩)
    · exact ⟨h1, by omega⟩
    · exact ⟨(made_alike how h i y x hi h2 h3).trans h1, h3⟩
theorem MInv.skip {ys : List Int} {how : Int} {a b : List Sp} {i : Nat} {y : Int} (h : BInv (a ++ b) ys) (hi : ys[i]? = some y) {out : List Sp} (hm : MInv how a b ys i out) (hin : madeB how a b y = false) : MInv how a b ys (i + 1) out :=
  ⟨hm.1, fun x => by rw [InS_split h hi hm x, hin]; simp, by have := hm.2.2; omega⟩
theorem InS_last {l : List Sp} {q : Sp} (x : Int) : InS (l ++ [q]) x ↔ (InS l x ∨ (q.1 ≤ x ∧ x ≤ q.2)) := by rw [InS_append]; simp [InS]
theorem MInv.merge {ys : List Int} {how : Int} {a b : List Sp} {i : Nat} {y : Int} (h : BInv (a ++ b) ys) (hi : ys[i]? = some y) {l : List Sp} {q : Sp} (hm : MInv how a b ys i (l ++ [q])) (hin : madeB how a b y = true) (hq : q.2 = y - 1) :
    MInv how a b ys (i + 1) (l ++ [(q.1, lim ys (i + 1) - 1)]) := by
  have hl := lim_lt h.1 h.2.2.1 i y hi
  obtain ⟨p1, p2, p3⟩ := hm
  obtain ⟨l1, l2, l3, l4⟩ := PlainF.last p1
  refine ⟨PlainF.snoc (PlainF.init p1) l1 l2 (by simp only; omega) (by simp only; omega), fun x => ?_, by simp at *; omega⟩
  rw [InS_split h hi ⟨p1, p2, p3⟩ x, InS_last, InS_last, hin]
  simp only [true_and]
  constructor
  · rintro (g | ⟨g1, g2⟩)
    · exact .inl (.inl g)
    · by_cases g3 : x ≤ q.2
      · exact .inl (.inr ⟨g1, g3⟩)
      · exact .inr ⟨by omega, by omega⟩
  · rintro ((g | ⟨g1, g2⟩) | ⟨g1, g2⟩)
    · exact .inl g
    · exact .inr ⟨g1, by omega⟩
    · exact .inr ⟨by omega, by omega⟩
theorem MInv.push {ys : List Int} {how : Int} {a b : List Sp} {i : Nat} {y : Int} (h : BInv (a ++ b) ys) (hi : ys[i]? = some y) {out : List Sp} (hm : MInv how a b ys i out) (hin : madeB how a b y = true) (hq : ∀ l q, out = l ++ [q] → q.2 ≠ y - 1) :
    MInv how a b ys (i + 1) (out ++ [(y, lim ys (i + 1) - 1)]) := by
  have hl := lim_lt h.1 h.2.2.1 i y hi
  have hy := h.2.2.1 y (List.mem_of_getElem? hi)
  obtain ⟨p1, p2, p3⟩ := hm
  have e : lim ys i = y := by unfold lim; rw [hi]; rfl
  have hlt : ∀ p ∈ out, p.2 + 1 < y := by
    rcases List.eq_nil_or_concat out with rfl | ⟨l, q, eo⟩
    · simp
    · rw [List.concat_eq_append] at eo
      subst eo
      obtain ⟨l1, l2, l3, l4⟩ := PlainF.last p1
      have h1 : q.2 < y := by
        have := (p2 q.2).1 ((InS_last _).2 (.inr ⟨l3, Int.le_refl _⟩))
        omega
      have h2 := hq l q rfl
      intro p hp
      rcases List.mem_append.1 hp with hp | hp
      · have := l2 p hp; omega
      · simp at hp; subst hp; omega
  refine ⟨PlainF.snoc p1 (by omega) hlt (by simp only; omega) (by simp only; omega), fun x => ?_, by simp; omega⟩
  rw [InS_split h hi ⟨p1, p2, p3⟩ x, InS_last, hin]
  simp only [true_and]
  constructor
  · rintro (g | ⟨g1, g2⟩)
    · exact .inl g
    · exact .inr ⟨g1, by omega⟩
  · rintro (g | ⟨g1, g2⟩)
    · exact .inl g
    · exact .inr ⟨g1, by omega⟩
theorem MInv.rep {ys : List Int} {how : Int} {a b : List Sp} {out : List Sp} (hm : MInv how a b ys ys.length out) : Rep out (fun x => madeB how a b x = true) := by
  refine ⟨hm.1, fun x => ?_⟩
  rw [hm.2.1 x]
  constructor
  · exact fun g => g.1
  · intro g
    refine ⟨g, ?_⟩
    have := made_low how a b x g
    unfold lim
    rw [List.getElem?_eq_none (Nat.le_refl _)]
    simp; omega
end Go.Proofs.Ytpmhdjiacgckjaa
end
section
namespace Go.Proofs.Ytpmhdjiacgckjaa
open Go.RowKit
set_option linter.unusedVariables false

/-- a call that leaves the world alone, however often that has drawn -/
def QuietAt (P : Program) (f : FuncId) (args : Array Value) (w : World) (v : Value) : Prop := ∀ n, Calls P f args (w.drewN n) fun e w' => e = .returned v ∧ w.drewN n = w'
theorem QuietAt.q1 {P : Program} {f : FuncId} {args : Array Value} {w : World} {v : Value} (h : QuietAt P f args w v) {n : Nat} : Calls P f args (w.drewN n) fun e w'' => e = .returned v ∧ ∃ m, w'' = w.drewN m :=
  (h n).mono fun _ _ ⟨he, hm⟩ => ⟨he, n, hm.symm⟩
theorem info59 : (Try.prog.info? 52).map (fun i => (i.zero, i.size, i.bytes)) = some (some (.agg #[.int .i64 0, .int .i64 0]), 2, 16) := by kernel_rfl
/-- what is handed out lies in a block of its own, or is empty -/
def Fresh (B : Nat) (e : Ending) : Prop := ∃ A n c, e = .returned (.slice A n c) ∧ (n = 0 ∨ ∃ g, A = some ⟨g, 0, none⟩ ∧ B ≤ g)
theorem Fresh.of_own {w' : World} {B base size n : Nat} {t : TypeId} {v : Value} {xs : List Value} (h : w'.ownsRow base t size v n xs) (hB : B ≤ base) : Fresh B (.returned v) := by
  rcases id h.2 with ⟨rfl, h0⟩ | ⟨g, cap, cur, rfl, hg, _⟩
  · exact ⟨_, _, _, rfl, .inl rfl⟩
  · exact ⟨_, _, _, rfl, .inr ⟨g, rfl, Nat.le_trans hB hg⟩⟩
def NewRep (w : World) (S : Int → Prop) (e : Ending) (w' : World) : Prop := ∃ r, NewSpans w r e w' ∧ Rep r S ∧ r.length ≤ 4194304 ∧ Fresh w.heap.size e
theorem NewSpans.of_own {w w' : World} {l : List Sp} {v : Value} {n base : Nat} {t : TypeId} (h : w'.ownsRow base t 2 v n (spanCells l)) (hb : Below w.heap.size w w') : NewSpans w l (.returned v) w' := by
  rcases id h with ⟨h1, ⟨rfl, rfl⟩ | ⟨g, cap, cur, rfl, _, _, hn, hc, _⟩⟩
  · exact ⟨none, 0, 0, rfl, Sl.of_own h, by omega, by omega, hb⟩
  · exact ⟨_, n, cap, rfl, Sl.of_own h, hn, hc, hb⟩
theorem spanCells_set (l : List Sp) (q : Sp) (to : Int) : (spanCells (l ++ [q])).set (l.length * 2 + 1) (.int .i64 to) = spanCells (l ++ [(q.1, to)]) := by
  rw [spanCells_append, spanCells_append, List.set_append_right _ _ (by rw [spanCells_length]; omega), spanCells_length]
  have : l.length * 2 + 1 - l.length * 2 = 1 := by omega
  rw [this]
  rfl
theorem snoc_cases (l : List Sp) : l = [] ∨ ∃ m q, l = m ++ [q] := by
  rcases List.eq_nil_or_concat l with rfl | ⟨m, q, e⟩
  · exact .inl rfl
  · exact .inr ⟨m, q, by rw [e, List.concat_eq_append]⟩

set_option maxRecDepth 100000 in
set_option maxHeartbeats 16000000 in
theorem Make0_any (A B : Option Addr) (n c m d : Nat) (a b : List Sp) (w : World) (h : Spans w A n a) (h' : Spans w B m b) (hw : SpW a) (hw' : SpW b) (hn : n < 1048576) (hm : m < 1048576) :
    Calls Try.prog 20 #[.slice A n c, .slice B m d, .int .i64 0] w (NewRep w (fun x => madeB 0 a b x = true)) := by
  obtain ⟨i0, hi, hz0, hz1, hz2⟩ := info_parts info59
  have HBO := Lib.hid (borders_any A B n c m d a b w h h' hw hw' hn hm)
  have hla := Lib.hid h.len
  have hlb := Lib.hid h'.len
  have HA := Lib.hid h
  have HB := Lib.hid h'
  clear h h' hw hw'
  go_enter Try.func20, Try.ntmps20
  go_wp2_with fail
  refine HBO.out.mono ?_
  rintro e w1 ⟨ys, ⟨C, N, cc, rfl, hC, hNc, hcc, hb1⟩, hbi⟩
  have HC := Lib.hid hC
  have HBI := Lib.hid hbi
  have HA1 := Lib.hid (HA.out.below hb1)
  have HB1 := Lib.hid (HB.out.below hb1)
  have hNl : N ≤ 4194304 := by
    have h1 := hbi.2.2.2.2
    have h2 := hla.out
    have h3 := hlb.out
    have h4 := hC.len
    rw [List.length_append] at h1
    omega
  have HBW := Lib.hid hb1
  clear hb1 hC hbi HA HB HBO
  go_wp2_with fail
  go_loopw [7, 9] (fun v i wr => ∃ (k : Nat) (out : List Sp), k ≤ N ∧ i = .int .i64 k ∧ wr.ownsRow w1.heap.size 52 2 v out.length (spanCells out) ∧ Below w1.heap.size w1 wr ∧ Hid (MInv 0 a b ys k out)) (fun _ i _ => N - (intOf i).toNat)
  case atStart => exact ⟨0, [], Nat.zero_le _, rfl, World.ownsRow_nil _ _ _ _, Below.refl _ _, MInv.start _ _ _ _ HBI.out⟩
  case round =>
  obtain ⟨k, out, hk, rfl, hown, hbel, hinv⟩ := hrel
  have HO := Lib.hid hown
  have HBE := Lib.hid hbel
  clear hown hbel
  by_cases hlt : k < N
  case neg =>
    have hd : decide (k < N) = false := by simpa using hlt
    go_wp2_with fail
    go_ret
    have e : k = ys.length := by have := HC.out.len; omega
    exact ⟨out, NewSpans.of_own HO.out (below_to HBW.out HBE.out), (e ▸ hinv.out).rep, by have := hinv.out.2.2; omega, Fresh.of_own HO.out HBW.out.size⟩
  obtain ⟨g, off, y, rfl, hy, hc1⟩ := HC.out.at_ hlt
  have hd1 := (HBE.out.cell (lt_of_cell hc1)).trans hc1
  have HY := Lib.hid hy
  have hyb := HBI.out.2.2.1 y (List.mem_of_getElem? hy)
  have hlm := lim_lt HBI.out.1 HBI.out.2.2.1 k y hy
  have QA : QuietAt Try.prog 15 #[.slice A n c, .int .i64 y] wr (.bool (hasB a y)) := fun q => rHas_any A n c a y _ ((HA1.out.below HBE.out).drewN q) (by omega)
  have QB : QuietAt Try.prog 15 #[.slice B m d, .int .i64 y] wr (.bool (hasB b y)) := fun q => rHas_any B m d b y _ ((HB1.out.below HBE.out).drewN q) (by omega)
  have hmk : Hid (madeB 0 a b y = inHow 0 (hasB a y) (hasB b y)) := rfl
  generalize hasB a y = ba at *
  generalize hasB b y = bb at *
  have HQA := Lib.hid QA
  have HQB := Lib.hid QB
  clear QA QB hy hc1
  obtain ⟨Av, cv, hv⟩ := own_shape HO.out
  subst hv
  obtain ⟨z, hz, hzc⟩ : ∃ z : Int, Hid (lim ys (k + 1) - 1 = z) ∧ ((k + 1 < N ∧ (∀ q, (wr.drewN q).cell? ⟨g, off + (k + 1), none⟩ = some (.int .i64 (z + 1)))) ∨ (N ≤ k + 1 ∧ z = 1073741824)) := by
    by_cases hk1 : k + 1 < N
    · obtain ⟨g', off', z, hA', hz, hc⟩ := HC.out.at_ hk1
      cases hA'
      have e : lim ys (k + 1) = z := by unfold lim; rw [hz]; rfl
      refine ⟨z - 1, by rw [e]; rfl, .inl ⟨hk1, fun q => ?_⟩⟩
      rw [show z - 1 + 1 = z from by omega]
      exact (HBE.out.cell (lt_of_cell hc)).trans hc
    · refine ⟨1073741824, ?_, .inr ⟨by omega, rfl⟩⟩
      unfold lim
      rw [List.getElem?_eq_none (by have := HC.out.len; omega)]
      rfl
  have hzb : y ≤ z ∧ z ≤ 1073741824 := by have := hz.out; omega
  clear hlm
  rcases ba with _ | _
  · rcases bb with _ | _
    · go_wp2_with fail
      go_quiet ((first | (go_at_call_of 15 (Value.slice A n c); exact HQA.out.q1) | (go_at_call_of 15 (Value.slice B m d); exact HQB.out.q1)))
      have HIN := Lib.hid (hinv.out.skip HBI.out HY.out (by rw [hmk.out]; simp [inHow]))
      clear hmk hzc
      go_wp2_with fail
      go_roundw
      case rel => exact ⟨k + 1, out, by omega, by go_num, HO.out, below_drewN HBE.out _, HIN.out⟩
      case measure => simp [intOf]; omega
    · go_wp2_with fail
      go_quiet ((first | (go_at_call_of 15 (Value.slice A n c); exact HQA.out.q1) | (go_at_call_of 15 (Value.slice B m d); exact HQB.out.q1)))
      have hin := Lib.hid (show madeB 0 a b y = true by rw [hmk.out]; simp [inHow])
      clear hmk
      rcases snoc_cases out with rfl | ⟨ol, oq, rfl⟩
      · have HIN := Lib.hid (hinv.out.push HBI.out HY.out hin.out (fun l q e => by simp at e))
        rw [hz.out] at HIN
        rcases hzc with ⟨hk1, hzc⟩ | ⟨hk1, rfl⟩
        all_goals
          go_wp2_with (first | go_quiet (fail) | (at_builtin; go_must (refine wpList_push rfl _ _ 26 rfl w1.heap.size 52 i0 _ 2 16 Try.underlying26 hi hz0 hz1 hz2 rfl (by decide) (ownsRow_drewN HO.out _) rfl [.int .i64 y, .int .i64 _] _ rfl rfl (one2 rfl rfl) (by decide) (by omega) HBE.out.size ?_); intro v' w2 hown2 hg2 _))
          have HB2 := Lib.hid (below_pushed (below_drewN HBE.out _) (ownsRow_drewN HO.out _) (Nat.le_refl _) HBE.out.size hg2)
          have HO2 := Lib.hid hown2
          clear hown2 hg2
          go_wp2_with fail
          go_roundw
          case rel => exact ⟨k + 1, [(y, _)], by omega, by go_num, HO2.out, HB2.out, HIN.out⟩
          case measure => simp [intOf]; omega
      · obtain ⟨g2, cap2, hv2, hb2, hl2⟩ := HO.out.form (by simp)
        obtain ⟨rfl, rfl⟩ : Av = some ⟨g2, 0, none⟩ ∧ cv = cap2 := by injection hv2 with h1 h2 h3; exact ⟨h1, h3⟩
        clear hv2
        have hol : ol.length < 4194304 + 1 := by have := hinv.out.2.2; simp at this; omega
        have hq1 : wr.cell? ⟨g2, ol.length * 2 + 1, none⟩ = some (.int .i64 oq.2) := by
          rw [HO.out.cellAt _ (by simp; omega)]
          exact (spanCells_at (ol ++ [oq]) ol.length oq (by simp)).2
        have hqb := (PlainF.last hinv.out.1).2.2
        have hqf := HO.out.frozenAt (ol.length * 2 + 1)
        obtain ⟨hst, _⟩ := HO.out.stored (ol.length * 2 + 1) (.int .i64 z)
        rw [spanCells_set] at hst
        have HST := Lib.hid hst
        clear hst
        have HLEN : Hid ((ol ++ [oq]).length = ol.length + 1) := by unfold Hid; simp
        have HLEN2 : Hid ((ol ++ [(oq.1, z)]).length = ol.length + 1) := by unfold Hid; simp
        have HLEN3 : Hid (((ol ++ [oq]) ++ [(y, z)]).length = ol.length + 1 + 1) := by unfold Hid; simp
        rw [HLEN.out] at HO HST ⊢
        by_cases hmg : oq.2 = y - 1
        · have HIN := Lib.hid (hinv.out.merge HBI.out HY.out hin.out hmg)
          rw [hz.out] at HIN
          have hbq : (oq.2 == y - 1) = true := by simpa using hmg
          clear hmg
          rcases hzc with ⟨hk1, hzc⟩ | ⟨hk1, rfl⟩
          all_goals
            go_wp2_with (go_quiet (fail))
            go_roundw
            case rel => exact ⟨k + 1, ol ++ [(oq.1, _)], by omega, by go_num, by rw [HLEN2.out]; exact HST.out, (below_drewN HBE.out _).setCell hb2 _, HIN.out⟩
            case measure => simp [intOf]; omega
        · have HIN := Lib.hid (hinv.out.push HBI.out HY.out hin.out (fun l q e => by
            have := List.append_inj_right' e rfl
            simp at this
            rw [← this]; exact hmg))
          rw [hz.out] at HIN
          have hbq : (oq.2 == y - 1) = false := by simpa using hmg
          clear hmg hqf HST
          rcases hzc with ⟨hk1, hzc⟩ | ⟨hk1, rfl⟩
          all_goals
            go_wp2_with (first | go_quiet (fail) | (at_builtin; go_must (refine wpList_push rfl _ _ 26 rfl w1.heap.size 52 i0 _ 2 16 Try.underlying26 hi hz0 hz1 hz2 rfl (by decide) (ownsRow_drewN HO.out _) rfl [.int .i64 y, .int .i64 _] _ rfl rfl (one2 rfl rfl) (by omega) (by omega) HBE.out.size ?_); intro v' w2 hown2 hg2 _))
            have HB2 := Lib.hid (below_pushed (below_drewN HBE.out _) (ownsRow_drewN HO.out _) (Nat.le_refl _) HBE.out.size hg2)
            have HO2 := Lib.hid hown2
            clear hown2 hg2
            go_wp2_with fail
            go_roundw
            case rel => exact ⟨k + 1, (ol ++ [oq]) ++ [(y, _)], by omega, by go_num, by rw [HLEN3.out, spanCells_append]; exact HO2.out, HB2.out, HIN.out⟩
            case measure => simp [intOf]; omega
  · go_wp2_with fail
    go_quiet ((first | (go_at_call_of 15 (Value.slice A n c); exact HQA.out.q1) | (go_at_call_of 15 (Value.slice B m d); exact HQB.out.q1)))
    have hin := Lib.hid (show madeB 0 a b y = true by rw [hmk.out]; simp [inHow])
    clear hmk
    rcases snoc_cases out with rfl | ⟨ol, oq, rfl⟩
    · have HIN := Lib.hid (hinv.out.push HBI.out HY.out hin.out (fun l q e => by simp at e))
      rw [hz.out] at HIN
      rcases hzc with ⟨hk1, hzc⟩ | ⟨hk1, rfl⟩
      all_goals
        go_wp2_with (first | go_quiet (fail) | (at_builtin; go_must (refine wpList_push rfl _ _ 26 rfl w1.heap.size 52 i0 _ 2 16 Try.underlying26 hi hz0 hz1 hz2 rfl (by decide) (ownsRow_drewN HO.out _) rfl [.int .i64 y, .int .i64 _] _ rfl rfl (one2 rfl rfl) (by decide) (by omega) HBE.out.size ?_); intro v' w2 hown2 hg2 _))
        have HB2 := Lib.hid (below_pushed (below_drewN HBE.out _) (ownsRow_drewN HO.out _) (Nat.le_refl _) HBE.out.size hg2)
        have HO2 := Lib.hid hown2
        clear hown2 hg2
        go_wp2_with fail
        go_roundw
        case rel => exact ⟨k + 1, [(y, _)], by omega, by go_num, HO2.out, HB2.out, HIN.out⟩
        case measure => simp [intOf]; omega
    · obtain ⟨g2, cap2, hv2, hb2, hl2⟩ := HO.out.form (by simp)
      obtain ⟨rfl, rfl⟩ : Av = some ⟨g2, 0, none⟩ ∧ cv = cap2 := by injection hv2 with h1 h2 h3; exact ⟨h1, h3⟩
      clear hv2
      have hol : ol.length < 4194304 + 1 := by have := hinv.out.2.2; simp at this; omega
      have hq1 : wr.cell? ⟨g2, ol.length * 2 + 1, none⟩ = some (.int .i64 oq.2) := by
        rw [HO.out.cellAt _ (by simp; omega)]
        exact (spanCells_at (ol ++ [oq]) ol.length oq (by simp)).2
      have hqb := (PlainF.last hinv.out.1).2.2
      have hqf := HO.out.frozenAt (ol.length * 2 + 1)
      obtain ⟨hst, _⟩ := HO.out.stored (ol.length * 2 + 1) (.int .i64 z)
      rw [spanCells_set] at hst
      have HST := Lib.hid hst
      clear hst
      have HLEN : Hid ((ol ++ [oq]).length = ol.length + 1) := by unfold Hid; simp
      have HLEN2 : Hid ((ol ++ [(oq.1, z)]).length = ol.length + 1) := by unfold Hid; simp
      have HLEN3 : Hid (((ol ++ [oq]) ++ [(y, z)]).length = ol.length + 1 + 1) := by unfold Hid; simp
      rw [HLEN.out] at HO HST ⊢
      by_cases hmg : oq.2 = y - 1
      · have HIN := Lib.hid (hinv.out.merge HBI.out HY.out hin.out hmg)
        rw [hz.out] at HIN
        have hbq : (oq.2 == y - 1) = true := by simpa using hmg
        clear hmg
        rcases hzc with ⟨hk1, hzc⟩ | ⟨hk1, rfl⟩
        all_goals
          go_wp2_with (go_quiet (fail))
          go_roundw
          case rel => exact ⟨k + 1, ol ++ [(oq.1, _)], by omega, by go_num, by rw [HLEN2.out]; exact HST.out, (below_drewN HBE.out _).setCell hb2 _, HIN.out⟩
          case measure => simp [intOf]; omega
      · have HIN := Lib.hid (hinv.out.push HBI.out HY.out hin.out (fun l q e => by
          have := List.append_inj_right' e rfl
          simp at this
          rw [← this]; exact hmg))
        rw [hz.out] at HIN
        have hbq : (oq.2 == y - 1) = false := by simpa using hmg
        clear hmg hqf HST
        rcases hzc with ⟨hk1, hzc⟩ | ⟨hk1, rfl⟩
        all_goals
          go_wp2_with (first | go_quiet (fail) | (at_builtin; go_must (refine wpList_push rfl _ _ 26 rfl w1.heap.size 52 i0 _ 2 16 Try.underlying26 hi hz0 hz1 hz2 rfl (by decide) (ownsRow_drewN HO.out _) rfl [.int .i64 y, .int .i64 _] _ rfl rfl (one2 rfl rfl) (by omega) (by omega) HBE.out.size ?_); intro v' w2 hown2 hg2 _))
          have HB2 := Lib.hid (below_pushed (below_drewN HBE.out _) (ownsRow_drewN HO.out _) (Nat.le_refl _) HBE.out.size hg2)
          have HO2 := Lib.hid hown2
          clear hown2 hg2
          go_wp2_with fail
          go_roundw
          case rel => exact ⟨k + 1, (ol ++ [oq]) ++ [(y, _)], by omega, by go_num, by rw [HLEN3.out, spanCells_append]; exact HO2.out, HB2.out, HIN.out⟩
          case measure => simp [intOf]; omega

set_option maxRecDepth 100000 in
set_option maxHeartbeats 16000000 in
theorem Make1_any (A B : Option Addr) (n c m d : Nat) (a b : List Sp) (w : World) (h : Spans w A n a) (h' : Spans w B m b) (hw : SpW a) (hw' : SpW b) (hn : n < 1048576) (hm : m < 1048576) :
    Calls Try.prog 20 #[.slice A n c, .slice B m d, .int .i64 1] w (NewRep w (fun x => madeB 1 a b x = true)) := by
  obtain ⟨i0, hi, hz0, hz1, hz2⟩ := info_parts info59
  have HBO := Lib.hid (borders_any A B n c m d a b w h h' hw hw' hn hm)
  have hla := Lib.hid h.len
  have hlb := Lib.hid h'.len
  have HA := Lib.hid h
  have HB := Lib.hid h'
  clear h h' hw hw'
  go_enter Try.func20, Try.ntmps20
  go_wp2_with fail
  refine HBO.out.mono ?_
  rintro e w1 ⟨ys, ⟨C, N, cc, rfl, hC, hNc, hcc, hb1⟩, hbi⟩
  have HC := Lib.hid hC
  have HBI := Lib.hid hbi
  have HA1 := Lib.hid (HA.out.below hb1)
  have HB1 := Lib.hid (HB.out.below hb1)
  have hNl : N ≤ 4194304 := by
    have h1 := hbi.2.2.2.2
    have h2 := hla.out
    have h3 := hlb.out
    have h4 := hC.len
    rw [List.length_append] at h1
    omega
  have HBW := Lib.hid hb1
  clear hb1 hC hbi HA HB HBO
  go_wp2_with fail
  go_loopw [7, 9] (fun v i wr => ∃ (k : Nat) (out : List Sp), k ≤ N ∧ i = .int .i64 k ∧ wr.ownsRow w1.heap.size 52 2 v out.length (spanCells out) ∧ Below w1.heap.size w1 wr ∧ Hid (MInv 1 a b ys k out)) (fun _ i _ => N - (intOf i).toNat)
  case atStart => exact ⟨0, [], Nat.zero_le _, rfl, World.ownsRow_nil _ _ _ _, Below.refl _ _, MInv.start _ _ _ _ HBI.out⟩
  case round =>
  obtain ⟨k, out, hk, rfl, hown, hbel, hinv⟩ := hrel
  have HO := Lib.hid hown
  have HBE := Lib.hid hbel
  clear hown hbel
  by_cases hlt : k < N
  case neg =>
    have hd : decide (k < N) = false := by simpa using hlt
    go_wp2_with fail
    go_ret
    have e : k = ys.length := by have := HC.out.len; omega
    exact ⟨out, NewSpans.of_own HO.out (below_to HBW.out HBE.out), (e ▸ hinv.out).rep, by have := hinv.out.2.2; omega, Fresh.of_own HO.out HBW.out.size⟩
  obtain ⟨g, off, y, rfl, hy, hc1⟩ := HC.out.at_ hlt
  have hd1 := (HBE.out.cell (lt_of_cell hc1)).trans hc1
  have HY := Lib.hid hy
  have hyb := HBI.out.2.2.1 y (List.mem_of_getElem? hy)
  have hlm := lim_lt HBI.out.1 HBI.out.2.2.1 k y hy
  have QA : QuietAt Try.prog 15 #[.slice A n c, .int .i64 y] wr (.bool (hasB a y)) := fun q => rHas_any A n c a y _ ((HA1.out.below HBE.out).drewN q) (by omega)
  have QB : QuietAt Try.prog 15 #[.slice B m d, .int .i64 y] wr (.bool (hasB b y)) := fun q => rHas_any B m d b y _ ((HB1.out.below HBE.out).drewN q) (by omega)
  have hmk : Hid (madeB 1 a b y = inHow 1 (hasB a y) (hasB b y)) := rfl
  generalize hasB a y = ba at *
  generalize hasB b y = bb at *
  have HQA := Lib.hid QA
  have HQB := Lib.hid QB
  clear QA QB hy hc1
  obtain ⟨Av, cv, hv⟩ := own_shape HO.out
  subst hv
  obtain ⟨z, hz, hzc⟩ : ∃ z : Int, Hid (lim ys (k + 1) - 1 = z) ∧ ((k + 1 < N ∧ (∀ q, (wr.drewN q).cell? ⟨g, off + (k + 1), none⟩ = some (.int .i64 (z + 1)))) ∨ (N ≤ k + 1 ∧ z = 1073741824)) := by
    by_cases hk1 : k + 1 < N
    · obtain ⟨g', off', z, hA', hz, hc⟩ := HC.out.at_ hk1
      cases hA'
      have e : lim ys (k + 1) = z := by unfold lim; rw [hz]; rfl
      refine ⟨z - 1, by rw [e]; rfl, .inl ⟨hk1, fun q => ?_⟩⟩
      rw [show z - 1 + 1 = z from by omega]
      exact (HBE.out.cell (lt_of_cell hc)).trans hc
    · refine ⟨1073741824, ?_, .inr ⟨by omega, rfl⟩⟩
      unfold lim
      rw [List.getElem?_eq_none (by have := HC.out.len; omega)]
      rfl
  have hzb : y ≤ z ∧ z ≤ 1073741824 := by have := hz.out; omega
  clear hlm
  rcases ba with _ | _
  · go_wp2_with fail
    go_quiet ((first | (go_at_call_of 15 (Value.slice A n c); exact HQA.out.q1) | (go_at_call_of 15 (Value.slice B m d); exact HQB.out.q1)))
    have HIN := Lib.hid (hinv.out.skip HBI.out HY.out (by rw [hmk.out]; simp [inHow]))
    clear hmk hzc
    go_wp2_with fail
    go_roundw
    case rel => exact ⟨k + 1, out, by omega, by go_num, HO.out, below_drewN HBE.out _, HIN.out⟩
    case measure => simp [intOf]; omega
  · rcases bb with _ | _
    · go_wp2_with fail
      go_quiet ((first | (go_at_call_of 15 (Value.slice A n c); exact HQA.out.q1) | (go_at_call_of 15 (Value.slice B m d); exact HQB.out.q1)))
      have HIN := Lib.hid (hinv.out.skip HBI.out HY.out (by rw [hmk.out]; simp [inHow]))
      clear hmk hzc
      go_wp2_with fail
      go_roundw
      case rel => exact ⟨k + 1, out, by omega, by go_num, HO.out, below_drewN HBE.out _, HIN.out⟩
      case measure => simp [intOf]; omega
    · go_wp2_with fail
      go_quiet ((first | (go_at_call_of 15 (Value.slice A n c); exact HQA.out.q1) | (go_at_call_of 15 (Value.slice B m d); exact HQB.out.q1)))
      have hin := Lib.hid (show madeB 1 a b y = true by rw [hmk.out]; simp [inHow])
      clear hmk
      rcases snoc_cases out with rfl | ⟨ol, oq, rfl⟩
      · have HIN := Lib.hid (hinv.out.push HBI.out HY.out hin.out (fun l q e => by simp at e))
        rw [hz.out] at HIN
        rcases hzc with ⟨hk1, hzc⟩ | ⟨hk1, rfl⟩
        all_goals
          go_wp2_with (first | go_quiet (fail) | (at_builtin; go_must (refine wpList_push rfl _ _ 26 rfl w1.heap.size 52 i0 _ 2 16 Try.underlying26 hi hz0 hz1 hz2 rfl (by decide) (ownsRow_drewN HO.out _) rfl [.int .i64 y, .int .i64 _] _ rfl rfl (one2 rfl rfl) (by decide) (by omega) HBE.out.size ?_); intro v' w2 hown2 hg2 _))
          have HB2 := Lib.hid (below_pushed (below_drewN HBE.out _) (ownsRow_drewN HO.out _) (Nat.le_refl _) HBE.out.size hg2)
          have HO2 := Lib.hid hown2
          clear hown2 hg2
          go_wp2_with fail
          go_roundw
          case rel => exact ⟨k + 1, [(y, _)], by omega, by go_num, HO2.out, HB2.out, HIN.out⟩
          case measure => simp [intOf]; omega
      · obtain ⟨g2, cap2, hv2, hb2, hl2⟩ := HO.out.form (by simp)
        obtain ⟨rfl, rfl⟩ : Av = some ⟨g2, 0, none⟩ ∧ cv = cap2 := by injection hv2 with h1 h2 h3; exact ⟨h1, h3⟩
        clear hv2
        have hol : ol.length < 4194304 + 1 := by have := hinv.out.2.2; simp at this; omega
        have hq1 : wr.cell? ⟨g2, ol.length * 2 + 1, none⟩ = some (.int .i64 oq.2) := by
          rw [HO.out.cellAt _ (by simp; omega)]
          exact (spanCells_at (ol ++ [oq]) ol.length oq (by simp)).2
        have hqb := (PlainF.last hinv.out.1).2.2
        have hqf := HO.out.frozenAt (ol.length * 2 + 1)
        obtain ⟨hst, _⟩ := HO.out.stored (ol.length * 2 + 1) (.int .i64 z)
        rw [spanCells_set] at hst
        have HST := Lib.hid hst
        clear hst
        have HLEN : Hid ((ol ++ [oq]).length = ol.length + 1) := by unfold Hid; simp
        have HLEN2 : Hid ((ol ++ [(oq.1, z)]).length = ol.length + 1) := by unfold Hid; simp
        have HLEN3 : Hid (((ol ++ [oq]) ++ [(y, z)]).length = ol.length + 1 + 1) := by unfold Hid; simp
        rw [HLEN.out] at HO HST ⊢
        by_cases hmg : oq.2 = y - 1
        · have HIN := Lib.hid (hinv.out.merge HBI.out HY.out hin.out hmg)
          rw [hz.out] at HIN
          have hbq : (oq.2 == y - 1) = true := by simpa using hmg
          clear hmg
          rcases hzc with ⟨hk1, hzc⟩ | ⟨hk1, rfl⟩
          all_goals
            go_wp2_with (go_quiet (fail))
            go_roundw
            case rel => exact ⟨k + 1, ol ++ [(oq.1, _)], by omega, by go_num, by rw [HLEN2.out]; exact HST.out, (below_drewN HBE.out _).setCell hb2 _, HIN.out⟩
            case measure => simp [intOf]; omega
        · have HIN := Lib.hid (hinv.out.push HBI.out HY.out hin.out (fun l q e => by
            have := List.append_inj_right' e rfl
            simp at this
            rw [← this]; exact hmg))
          rw [hz.out] at HIN
          have hbq : (oq.2 == y - 1) = false := by simpa using hmg
          clear hmg hqf HST
          rcases hzc with ⟨hk1, hzc⟩ | ⟨hk1, rfl⟩
          all_goals
            go_wp2_with (first | go_quiet (fail) | (at_builtin; go_must (refine wpList_push rfl _ _ 26 rfl w1.heap.size 52 i0 _ 2 16 Try.underlying26 hi hz0 hz1 hz2 rfl (by decide) (ownsRow_drewN HO.out _) rfl [.int .i64 y, .int .i64 _] _ rfl rfl (one2 rfl rfl) (by omega) (by omega) HBE.out.size ?_); intro v' w2 hown2 hg2 _))
            have HB2 := Lib.hid (below_pushed (below_drewN HBE.out _) (ownsRow_drewN HO.out _) (Nat.le_refl _) HBE.out.size hg2)
            have HO2 := Lib.hid hown2
            clear hown2 hg2
            go_wp2_with fail
            go_roundw
            case rel => exact ⟨k + 1, (ol ++ [oq]) ++ [(y, _)], by omega, by go_num, by rw [HLEN3.out, spanCells_append]; exact HO2.out, HB2.out, HIN.out⟩
            case measure => simp [intOf]; omega

set_option maxRecDepth 100000 in
set_option maxHeartbeats 16000000 in
theorem Make2_any (A B : Option Addr) (n c m d : Nat) (a b : List Sp) (w : World) (h : Spans w A n a) (h' : Spans w B m b) (hw : SpW a) (hw' : SpW b) (hn : n < 1048576) (hm : m < 1048576) :
    Calls Try.prog 20 #[.slice A n c, .slice B m d, .int .i64 2] w (NewRep w (fun x => madeB 2 a b x = true)) := by
  obtain ⟨i0, hi, hz0, hz1, hz2⟩ := info_parts info59
  have HBO := Lib.hid (borders_any A B n c m d a b w h h' hw hw' hn hm)
  have hla := Lib.hid h.len
  have hlb := Lib.hid h'.len
  have HA := Lib.hid h
  have HB := Lib.hid h'
  clear h h' hw hw'
  go_enter Try.func20, Try.ntmps20
  go_wp2_with fail
  refine HBO.out.mono ?_
  rintro e w1 ⟨ys, ⟨C, N, cc, rfl, hC, hNc, hcc, hb1⟩, hbi⟩
  have HC := Lib.hid hC
  have HBI := Lib.hid hbi
  have HA1 := Lib.hid (HA.out.below hb1)
  have HB1 := Lib.hid (HB.out.below hb1)
  have hNl : N ≤ 4194304 := by
    have h1 := hbi.2.2.2.2
    have h2 := hla.out
    have h3 := hlb.out
    have h4 := hC.len
    rw [List.length_append] at h1
    omega
  have HBW := Lib.hid hb1
  clear hb1 hC hbi HA HB HBO
  go_wp2_with fail
  go_loopw [7, 9] (fun v i wr => ∃ (k : Nat) (out : List Sp), k ≤ N ∧ i = .int .i64 k ∧ wr.ownsRow w1.heap.size 52 2 v out.length (spanCells out) ∧ Below w1.heap.size w1 wr ∧ Hid (MInv 2 a b ys k out)) (fun _ i _ => N - (intOf i).toNat)
  case atStart => exact ⟨0, [], Nat.zero_le _, rfl, World.ownsRow_nil _ _ _ _, Below.refl _ _, MInv.start _ _ _ _ HBI.out⟩
  case round =>
  obtain ⟨k, out, hk, rfl, hown, hbel, hinv⟩ := hrel
  have HO := Lib.hid hown
  have HBE := Lib.hid hbel
  clear hown hbel
  by_cases hlt : k < N
  case neg =>
    have hd : decide (k < N) = false := by simpa using hlt
    go_wp2_with fail
    go_ret
    have e : k = ys.length := by have := HC.out.len; omega
    exact ⟨out, NewSpans.of_own HO.out (below_to HBW.out HBE.out), (e ▸ hinv.out).rep, by have := hinv.out.2.2; omega, Fresh.of_own HO.out HBW.out.size⟩
  obtain ⟨g, off, y, rfl, hy, hc1⟩ := HC.out.at_ hlt
  have hd1 := (HBE.out.cell (lt_of_cell hc1)).trans hc1
  have HY := Lib.hid hy
  have hyb := HBI.out.2.2.1 y (List.mem_of_getElem? hy)
  have hlm := lim_lt HBI.out.1 HBI.out.2.2.1 k y hy
  have QA : QuietAt Try.prog 15 #[.slice A n c, .int .i64 y] wr (.bool (hasB a y)) := fun q => rHas_any A n c a y _ ((HA1.out.below HBE.out).drewN q) (by omega)
  have QB : QuietAt Try.prog 15 #[.slice B m d, .int .i64 y] wr (.bool (hasB b y)) := fun q => rHas_any B m d b y _ ((HB1.out.below HBE.out).drewN q) (by omega)
  have hmk : Hid (madeB 2 a b y = inHow 2 (hasB a y) (hasB b y)) := rfl
  generalize hasB a y = ba at *
  generalize hasB b y = bb at *
  have HQA := Lib.hid QA
  have HQB := Lib.hid QB
  clear QA QB hy hc1
  obtain ⟨Av, cv, hv⟩ := own_shape HO.out
  subst hv
  obtain ⟨z, hz, hzc⟩ : ∃ z : Int, Hid (lim ys (k + 1) - 1 = z) ∧ ((k + 1 < N ∧ (∀ q, (wr.drewN q).cell? ⟨g, off + (k + 1), none⟩ = some (.int .i64 (z + 1)))) ∨ (N ≤ k + 1 ∧ z = 1073741824)) := by
    by_cases hk1 : k + 1 < N
    · obtain ⟨g', off', z, hA', hz, hc⟩ := HC.out.at_ hk1
      cases hA'
      have e : lim ys (k + 1) = z := by unfold lim; rw [hz]; rfl
      refine ⟨z - 1, by rw [e]; rfl, .inl ⟨hk1, fun q => ?_⟩⟩
      rw [show z - 1 + 1 = z from by omega]
      exact (HBE.out.cell (lt_of_cell hc)).trans hc
    · refine ⟨1073741824, ?_, .inr ⟨by omega, rfl⟩⟩
      unfold lim
      rw [List.getElem?_eq_none (by have := HC.out.len; omega)]
      rfl
  have hzb : y ≤ z ∧ z ≤ 1073741824 := by have := hz.out; omega
  clear hlm
  rcases ba with _ | _
  · go_wp2_with fail
    go_quiet ((first | (go_at_call_of 15 (Value.slice A n c); exact HQA.out.q1) | (go_at_call_of 15 (Value.slice B m d); exact HQB.out.q1)))
    have HIN := Lib.hid (hinv.out.skip HBI.out HY.out (by rw [hmk.out]; simp [inHow]))
    clear hmk hzc
    go_wp2_with fail
    go_roundw
    case rel => exact ⟨k + 1, out, by omega, by go_num, HO.out, below_drewN HBE.out _, HIN.out⟩
    case measure => simp [intOf]; omega
  · rcases bb with _ | _
    · go_wp2_with fail
      go_quiet ((first | (go_at_call_of 15 (Value.slice A n c); exact HQA.out.q1) | (go_at_call_of 15 (Value.slice B m d); exact HQB.out.q1)))
      have hin := Lib.hid (show madeB 2 a b y = true by rw [hmk.out]; simp [inHow])
      clear hmk
      rcases snoc_cases out with rfl | ⟨ol, oq, rfl⟩
      · have HIN := Lib.hid (hinv.out.push HBI.out HY.out hin.out (fun l q e => by simp at e))
        rw [hz.out] at HIN
        rcases hzc with ⟨hk1, hzc⟩ | ⟨hk1, rfl⟩
        all_goals
          go_wp2_with (first | go_quiet (fail) | (at_builtin; go_must (refine wpList_push rfl _ _ 26 rfl w1.heap.size 52 i0 _ 2 16 Try.underlying26 hi hz0 hz1 hz2 rfl (by decide) (ownsRow_drewN HO.out _) rfl [.int .i64 y, .int .i64 _] _ rfl rfl (one2 rfl rfl) (by decide) (by omega) HBE.out.size ?_); intro v' w2 hown2 hg2 _))
          have HB2 := Lib.hid (below_pushed (below_drewN HBE.out _) (ownsRow_drewN HO.out _) (Nat.le_refl _) HBE.out.size hg2)
          have HO2 := Lib.hid hown2
          clear hown2 hg2
          go_wp2_with fail
          go_roundw
          case rel => exact ⟨k + 1, [(y, _)], by omega, by go_num, HO2.out, HB2.out, HIN.out⟩
          case measure => simp [intOf]; omega
      · obtain ⟨g2, cap2, hv2, hb2, hl2⟩ := HO.out.form (by simp)
        obtain ⟨rfl, rfl⟩ : Av = some ⟨g2, 0, none⟩ ∧ cv = cap2 := by injection hv2 with h1 h2 h3; exact ⟨h1, h3⟩
        clear hv2
        have hol : ol.length < 4194304 + 1 := by have := hinv.out.2.2; simp at this; omega
        have hq1 : wr.cell? ⟨g2, ol.length * 2 + 1, none⟩ = some (.int .i64 oq.2) := by
          rw [HO.out.cellAt _ (by simp; omega)]
          exact (spanCells_at (ol ++ [oq]) ol.length oq (by simp)).2
        have hqb := (PlainF.last hinv.out.1).2.2
        have hqf := HO.out.frozenAt (ol.length * 2 + 1)
        obtain ⟨hst, _⟩ := HO.out.stored (ol.length * 2 + 1) (.int .i64 z)
        rw [spanCells_set] at hst
        have HST := Lib.hid hst
        clear hst
        have HLEN : Hid ((ol ++ [oq]).length = ol.length + 1) := by unfold Hid; simp
        have HLEN2 : Hid ((ol ++ [(oq.1, z)]).length = ol.length + 1) := by unfold Hid; simp
        have HLEN3 : Hid (((ol ++ [oq]) ++ [(y, z)]).length = ol.length + 1 + 1) := by unfold Hid; simp
        rw [HLEN.out] at HO HST ⊢
        by_cases hmg : oq.2 = y - 1
        · have HIN := Lib.hid (hinv.out.merge HBI.out HY.out hin.out hmg)
          rw [hz.out] at HIN
          have hbq : (oq.2 == y - 1) = true := by simpa using hmg
          clear hmg
          rcases hzc with ⟨hk1, hzc⟩ | ⟨hk1, rfl⟩
          all_goals
            go_wp2_with (go_quiet (fail))
            go_roundw
            case rel => exact ⟨k + 1, ol ++ [(oq.1, _)], by omega, by go_num, by rw [HLEN2.out]; exact HST.out, (below_drewN HBE.out _).setCell hb2 _, HIN.out⟩
            case measure => simp [intOf]; omega
        · have HIN := Lib.hid (hinv.out.push HBI.out HY.out hin.out (fun l q e => by
            have := List.append_inj_right' e rfl
            simp at this
            rw [← this]; exact hmg))
          rw [hz.out] at HIN
          have hbq : (oq.2 == y - 1) = false := by simpa using hmg
          clear hmg hqf HST
          rcases hzc with ⟨hk1, hzc⟩ | ⟨hk1, rfl⟩
          all_goals
            go_wp2_with (first | go_quiet (fail) | (at_builtin; go_must (refine wpList_push rfl _ _ 26 rfl w1.heap.size 52 i0 _ 2 16 Try.underlying26 hi hz0 hz1 hz2 rfl (by decide) (ownsRow_drewN HO.out _) rfl [.int .i64 y, .int .i64 _] _ rfl rfl (one2 rfl rfl) (by omega) (by omega) HBE.out.size ?_); intro v' w2 hown2 hg2 _))
            have HB2 := Lib.hid (below_pushed (below_drewN HBE.out _) (ownsRow_drewN HO.out _) (Nat.le_refl _) HBE.out.size hg2)
            have HO2 := Lib.hid hown2
            clear hown2 hg2
            go_wp2_with fail
            go_roundw
            case rel => exact ⟨k + 1, (ol ++ [oq]) ++ [(y, _)], by omega, by go_num, by rw [HLEN3.out, spanCells_append]; exact HO2.out, HB2.out, HIN.out⟩
            case measure => simp [intOf]; omega
    · go_wp2_with fail
      go_quiet ((first | (go_at_call_of 15 (Value.slice A n c); exact HQA.out.q1) | (go_at_call_of 15 (Value.slice B m d); exact HQB.out.q1)))
      have HIN := Lib.hid (hinv.out.skip HBI.out HY.out (by rw [hmk.out]; simp [inHow]))
      clear hmk hzc
      go_wp2_with fail
      go_roundw
      case rel => exact ⟨k + 1, out, by omega, by go_num, HO.out, below_drewN HBE.out _, HIN.out⟩
      case measure => simp [intOf]; omega
end Go.Proofs.Ytpmhdjiacgckjaa
end
