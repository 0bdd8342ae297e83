/- Plain facts on the values of parts: what comes of a span, and of which numbers a value comes. No program in sight. Condition: none. -/
import Derived.Test.YtdaagdohhnhbdaaPartR
import Derived.Test.YtdaagdohhnhbdaaEach
namespace Go.Proofs.Ytdaagdohhnhbdaa
open Go.RowKit
set_option linter.unusedVariables false

theorem div_span {D x1 x2 y : Int} (hD : 1 ≤ D) (hx : x1 ≤ x2) : (∃ x, x1 ≤ x ∧ x ≤ x2 ∧ x / D = y) ↔ (x1 / D ≤ y ∧ y ≤ x2 / D) := by
  constructor
  · rintro ⟨x, h1, h2, rfl⟩
    exact ⟨Int.ediv_le_ediv (by omega) h1, Int.ediv_le_ediv (by omega) h2⟩
  · rintro ⟨h1, h2⟩
    have h3 : y * D ≤ x2 := (Int.le_ediv_iff_mul_le (by omega)).1 h2
    by_cases h : x1 ≤ y * D
    · exact ⟨y * D, h, h3, Int.mul_ediv_cancel _ (by omega)⟩
    · have : y ≤ x1 / D := (Int.le_ediv_iff_mul_le (by omega)).2 (by omega)
      exact ⟨x1, Int.le_refl _, hx, by omega⟩
theorem res_all {T lo hi v : Int} (hT : 1 ≤ T) (h : T - 1 ≤ hi - lo) (h0 : 0 ≤ v) (h1 : v < T) : ∃ y, lo ≤ y ∧ y ≤ hi ∧ y % T = v := by
  have g0 := Int.emod_nonneg (v - lo) (b := T) (by omega)
  have g1 := Int.emod_lt_of_pos (v - lo) (b := T) (by omega)
  refine ⟨lo + (v - lo) % T, by omega, by omega, ?_⟩
  rw [Int.add_emod_emod, show lo + (v - lo) = v by omega]
  exact Int.emod_eq_of_lt h0 h1
theorem div_eq {T lo q m : Int} (h : lo = T * q + m) (h0 : 0 ≤ m) (h1 : m < T) : lo / T = q ∧ lo % T = m := by
  subst h
  have hT : T ≠ 0 := by omega
  constructor
  · rw [Int.add_comm, Int.add_mul_ediv_left _ _ hT, Int.ediv_eq_zero_of_lt h0 h1]; omega
  · rw [Int.add_comm, Int.add_mul_emod_self_left]; exact Int.emod_eq_of_lt h0 h1
theorem res_span {T lo hi v : Int} (hT : 1 ≤ T) (hl : lo ≤ hi) (h : hi - lo < T - 1) :
    (∃ y, lo ≤ y ∧ y ≤ hi ∧ y % T = v) ↔ (if lo % T ≤ hi % T then lo % T ≤ v ∧ v ≤ hi % T else (0 ≤ v ∧ v ≤ hi % T) ∨ (lo % T ≤ v ∧ v ≤ T - 1)) := by
  have a0 := Int.emod_nonneg lo (b := T) (by omega)
  have a1 := Int.emod_lt_of_pos lo (b := T) (by omega)
  have b0 := Int.emod_nonneg hi (b := T) (by omega)
  have b1 := Int.emod_lt_of_pos hi (b := T) (by omega)
  have ea := Int.mul_ediv_add_emod lo T
  have eb := Int.mul_ediv_add_emod hi T
  have hq : lo / T ≤ hi / T := Int.ediv_le_ediv (by omega) hl
  have hcase : hi / T = lo / T ∨ hi / T = lo / T + 1 ∨ lo / T + 2 ≤ hi / T := by omega
  have h2 : lo / T + 2 ≤ hi / T → False := by
    intro g
    have := Int.mul_le_mul_of_nonneg_left g (show 0 ≤ T by omega)
    rw [Int.mul_add] at this
    omega
  have hstep : T * (lo / T + 1) = T * (lo / T) + T := by rw [Int.mul_add, Int.mul_one]
  split
  · rename_i hle
    have e : hi / T = lo / T := by
      rcases hcase with e | e | e
      · exact e
      · rw [e, hstep] at eb; omega
      · exact (h2 e).elim
    rw [e] at eb
    constructor
    · rintro ⟨y, g1, g2, rfl⟩
      have ey := Int.mul_ediv_add_emod y T
      have q1 : lo / T ≤ y / T := Int.ediv_le_ediv (by omega) g1
      have q2 : y / T ≤ hi / T := Int.ediv_le_ediv (by omega) g2
      have : y / T = lo / T := by omega
      rw [this] at ey
      omega
    · rintro ⟨g1, g2⟩
      exact ⟨T * (lo / T) + v, by omega, by omega, (div_eq rfl (by omega) (by omega)).2⟩
  · rename_i hle
    have e : hi / T = lo / T + 1 := by
      rcases hcase with e | e | e
      · rw [e] at eb; omega
      · exact e
      · exact (h2 e).elim
    rw [e, hstep] at eb
    constructor
    · rintro ⟨y, g1, g2, rfl⟩
      have ey := Int.mul_ediv_add_emod y T
      have y0 := Int.emod_nonneg y (b := T) (by omega)
      have y1 := Int.emod_lt_of_pos y (b := T) (by omega)
      have q1 : lo / T ≤ y / T := Int.ediv_le_ediv (by omega) g1
      have q2 : y / T ≤ hi / T := Int.ediv_le_ediv (by omega) g2
      have : y / T = lo / T ∨ y / T = lo / T + 1 := by omega
      rcases this with q | q
      · rw [q] at ey; right; omega
      · rw [q, hstep] at ey; left; omega
    · rintro (⟨g1, g2⟩ | ⟨g1, g2⟩)
      · exact ⟨T * (lo / T + 1) + v, by rw [hstep]; omega, by rw [hstep]; omega, (div_eq rfl (by omega) (by omega)).2⟩
      · exact ⟨T * (lo / T) + v, by omega, by omega, (div_eq rfl (by omega) (by omega)).2⟩

theorem InS_one (a b x : Int) : InS [(a, b)] x ↔ (a ≤ x ∧ x ≤ b) := by simp [InS]
theorem InS_take_succ {m : List Sp} {k : Nat} {p : Sp} (h : m[k]? = some p) (x : Int) : InS (m.take (k + 1)) x ↔ (InS (m.take k) x ∨ (p.1 ≤ x ∧ x ≤ p.2)) := by
  rw [take_snoc? h, InS_append]; simp [InS]
/-- what comes of the numbers of a list, ahead of the last step -/
def ImInv (D T : Int) (m : List Sp) (o : List Sp) : Prop := (∀ v, InS o v ↔ ∃ x, InS m x ∧ x / D % T = v) ∧ ∀ p ∈ o, 0 ≤ p.1 ∧ p.1 ≤ p.2 ∧ p.2 ≤ T - 1
theorem ImInv.start (D T : Int) : ImInv D T [] [] := ⟨fun v => by simp [InS], by simp⟩
theorem im_span {D T : Int} (hD : 1 ≤ D) {x1 x2 : Int} (hx : x1 ≤ x2) (v : Int) : (∃ x, x1 ≤ x ∧ x ≤ x2 ∧ x / D % T = v) ↔ ∃ y, x1 / D ≤ y ∧ y ≤ x2 / D ∧ y % T = v := by
  constructor
  · rintro ⟨x, h1, h2, h3⟩
    have := (div_span hD hx).1 ⟨x, h1, h2, rfl⟩
    exact ⟨_, this.1, this.2, h3⟩
  · rintro ⟨y, h1, h2, h3⟩
    obtain ⟨x, g1, g2, rfl⟩ := (div_span hD hx).2 ⟨h1, h2⟩
    exact ⟨x, g1, g2, h3⟩
theorem ImInv.next {D T : Int} {m : List Sp} {o : List Sp} {k : Nat} {x1 x2 : Int} {n : List Sp} (h : ImInv D T (m.take k) o) (hx : m[k]? = some (x1, x2))
    (hn : ∀ v, InS n v ↔ ∃ x, x1 ≤ x ∧ x ≤ x2 ∧ x / D % T = v) (hb : ∀ p ∈ n, 0 ≤ p.1 ∧ p.1 ≤ p.2 ∧ p.2 ≤ T - 1) : ImInv D T (m.take (k + 1)) (o ++ n) := by
  refine ⟨fun v => ?_, fun p hp => ?_⟩
  · rw [InS_append, h.1, hn]
    constructor
    · rintro (⟨x, g1, g2⟩ | ⟨x, g1, g2, g3⟩)
      · exact ⟨x, (InS_take_succ hx x).2 (.inl g1), g2⟩
      · exact ⟨x, (InS_take_succ hx x).2 (.inr ⟨g1, g2⟩), g3⟩
    · rintro ⟨x, g1, g2⟩
      rcases (InS_take_succ hx x).1 g1 with g | g
      · exact .inl ⟨x, g, g2⟩
      · exact .inr ⟨x, g.1, g.2, g2⟩
  · rcases List.mem_append.1 hp with g | g
    · exact h.2 p g
    · exact hb p g
theorem ImInv.one {D T : Int} {m : List Sp} {o : List Sp} {k : Nat} {x1 x2 : Int} (hD : 1 ≤ D) (hT : 1 ≤ T) (h : ImInv D T (m.take k) o) (hx : m[k]? = some (x1, x2)) (hxx : x1 ≤ x2)
    (hs : x2 / D - x1 / D < T - 1) (hle : x1 / D % T ≤ x2 / D % T) : ImInv D T (m.take (k + 1)) (o ++ [(x1 / D % T, x2 / D % T)]) := by
  have a0 := Int.emod_nonneg (x1 / D) (b := T) (by omega)
  have b1 := Int.emod_lt_of_pos (x2 / D) (b := T) (by omega)
  refine h.next hx (fun v => ?_) (fun p hp => by simp at hp; subst hp; simp only; omega)
  rw [InS_one, im_span hD hxx, res_span hT (Int.ediv_le_ediv (by omega) hxx) hs, if_pos hle]
theorem ImInv.two {D T : Int} {m : List Sp} {o : List Sp} {k : Nat} {x1 x2 : Int} (hD : 1 ≤ D) (hT : 1 ≤ T) (h : ImInv D T (m.take k) o) (hx : m[k]? = some (x1, x2)) (hxx : x1 ≤ x2)
    (hs : x2 / D - x1 / D < T - 1) (hle : ¬ x1 / D % T ≤ x2 / D % T) : ImInv D T (m.take (k + 1)) (o ++ [(0, x2 / D % T), (x1 / D % T, T - 1)]) := by
  have a0 := Int.emod_nonneg (x1 / D) (b := T) (by omega)
  have a1 := Int.emod_lt_of_pos (x1 / D) (b := T) (by omega)
  have b0 := Int.emod_nonneg (x2 / D) (b := T) (by omega)
  have b1 := Int.emod_lt_of_pos (x2 / D) (b := T) (by omega)
  refine h.next hx (fun v => ?_) (fun p hp => by simp at hp; rcases hp with rfl | rfl <;> simp only <;> omega)
  rw [im_span hD hxx, res_span hT (Int.ediv_le_ediv (by omega) hxx) hs, if_neg hle]
  simp [InS]
theorem ImInv.full {D T : Int} {m : List Sp} {k : Nat} {x1 x2 : Int} (hD : 1 ≤ D) (hT : 1 ≤ T) (hx : m[k]? = some (x1, x2)) (hxx : x1 ≤ x2)
    (hs : T - 1 ≤ x2 / D - x1 / D) : ImInv D T m [(0, T - 1)] := by
  refine ⟨fun v => ?_, fun p hp => by simp at hp; subst hp; simp only; omega⟩
  rw [InS_one]
  constructor
  · rintro ⟨h0, h1⟩
    obtain ⟨x, g1, g2, g3⟩ := (im_span hD hxx v).2 (res_all hT hs h0 (by omega))
    exact ⟨x, InS_of_mem (List.mem_of_getElem? hx) g1 g2, g3⟩
  · rintro ⟨x, _, rfl⟩
    have := Int.emod_nonneg (x / D) (b := T) (by omega)
    have := Int.emod_lt_of_pos (x / D) (b := T) (by omega)
    omega

theorem nums_mem (r : List Sp) (x : Int) : x ∈ nums r ↔ InS r x := by
  rw [InS_iff]
  simp only [nums, List.mem_flatMap, numsOf, List.mem_map, List.mem_range]
  constructor
  · rintro ⟨p, hp, i, hi, rfl⟩
    exact ⟨p, hp, by omega, by omega⟩
  · rintro ⟨p, hp, h1, h2⟩
    exact ⟨p, hp, (x - p.1).toNat, by omega, by omega⟩
/-- the values of a set's numbers; the numbers whose values are in another set -/
def ImgS (d t u : Int) (a : List Sp) (v : Int) : Prop := bitsB d t u = true ∧ ∃ x, Mem a x ∧ 0 ≤ x ∧ x ≤ 2097151 ∧ pval d t u x = v
def PreS (d t u : Int) (a g : List Sp) (x : Int) : Prop := bitsB d t u = true ∧ Mem a x ∧ 0 ≤ x ∧ x ≤ 2097151 ∧ Mem g (pval d t u x)
def TkS (t u : Int) (g : List Sp) (y : Int) : Prop := 0 ≤ y ∧ y ≤ pw t - 1 ∧ Mem g (y * pw u)
def topM (a : List Sp) (x : Int) : Prop := Mem a x ∧ Mem [(0, 2097151)] x
theorem topM_iff (a : List Sp) (x : Int) : topM a x ↔ (Mem a x ∧ 0 ≤ x ∧ x ≤ 2097151) := by
  constructor
  · rintro ⟨h, _, _, h3⟩
    exact ⟨h, (InS_one _ _ _).1 h3⟩
  · rintro ⟨h, h3⟩
    exact ⟨h, h.1, h.2.1, (InS_one _ _ _).2 h3⟩
theorem rep_img (d t u : Int) (a : List Sp) : ∃ r, Hid (Rep r (ImgS d t u a)) := rep_all _ fun v ⟨hb, x, _, _, _, hv⟩ => by have := pval_bd hb x; omega
theorem rep_pre (d t u : Int) (a g : List Sp) : ∃ r, Hid (Rep r (PreS d t u a g)) := rep_all _ fun v ⟨_, h, _⟩ => h.bound
theorem rep_tk {t : Int} (h0 : 0 ≤ t) (h : t ≤ 21) (u : Int) (g : List Sp) : ∃ r, Hid (Rep r (TkS t u g)) := rep_all _ fun v ⟨h1, h2, _⟩ => by have := pw_le21 h0 h; omega
theorem ImInv.rep0 {d t : Int} {a m o r : List Sp} (hb : bitsB d t 0 = true) (hm : Rep m (topM a)) (h : ImInv (pw d) (pw t) m o) (hr : Rep r (Mem o)) : Rep r (ImgS d t 0 a) := by
  refine hr.congr fun v => ?_
  have ht := pw_le21 (n := t) (by have := (bitsB_iff _ _ _).1 hb; omega) (by have := (bitsB_iff _ _ _).1 hb; omega)
  have e : Mem o v ↔ InS o v := by
    refine ⟨fun h => h.2.2, fun hv => ?_⟩
    obtain ⟨p, hp, g1, g2⟩ := (InS_iff _ _).1 hv
    have := h.2 p hp
    exact ⟨by omega, by omega, hv⟩
  rw [e, h.1]
  unfold ImgS
  simp only [hm.2, topM_iff, hb, true_and, pval]
  have e0 : pw 0 = 1 := rfl
  simp only [e0, Int.mul_one, and_assoc]
theorem ImInv.repU {d t u : Int} {a m o r : List Sp} (hb : bitsB d t u = true) (hm : Rep m (topM a)) (h : ImInv (pw d) (pw t) m o) (hr : Rep r (Mem o)) {s : List Sp}
    (hs : Rep s (Mem ((nums r).map fun v => (v * pw u, v * pw u)))) : Rep s (ImgS d t u a) := by
  refine hs.congr fun v => ?_
  obtain ⟨b1, b2, b3, b4, b5, b6, b7⟩ := (bitsB_iff _ _ _).1 hb
  have ht := pw_le21 (n := t) (by omega) b4
  have e : ∀ y, InS r y ↔ InS o y := fun y => by
    rw [hr.2]
    refine ⟨fun h => h.2.2, fun hv => ?_⟩
    obtain ⟨p, hp, g1, g2⟩ := (InS_iff _ _).1 hv
    have := h.2 p hp
    exact ⟨by omega, by omega, hv⟩
  have e2 : InS ((nums r).map fun v => (v * pw u, v * pw u)) v ↔ ∃ y, InS r y ∧ y * pw u = v := by
    rw [InS_iff]
    constructor
    · rintro ⟨p, hp, g1, g2⟩
      obtain ⟨y, hy, rfl⟩ := List.mem_map.1 hp
      exact ⟨y, (nums_mem r y).1 hy, by simp only at g1 g2; omega⟩
    · rintro ⟨y, hy, rfl⟩
      exact ⟨_, List.mem_map.2 ⟨y, (nums_mem r y).2 hy, rfl⟩, Int.le_refl _, Int.le_refl _⟩
  have e3 : ImgS d t u a v ↔ ∃ y, InS r y ∧ y * pw u = v := by
    unfold ImgS
    constructor
    · rintro ⟨_, x, hx, h0, h1, rfl⟩
      exact ⟨_, (e _).2 ((h.1 _).2 ⟨x, (hm.2 x).2 ((topM_iff a x).2 ⟨hx, h0, h1⟩), rfl⟩), rfl⟩
    · rintro ⟨y, hy, rfl⟩
      obtain ⟨x, hx, rfl⟩ := (h.1 _).1 ((e _).1 hy)
      obtain ⟨g1, g2, g3⟩ := (topM_iff a x).1 ((hm.2 x).1 hx)
      exact ⟨hb, x, g1, g2, g3, rfl⟩
  rw [e3, ← e2]
  refine ⟨fun g => g.2.2, fun g => ⟨?_, ?_, g⟩⟩
  all_goals
    obtain ⟨_, x, _, _, _, hv⟩ := e3.2 (e2.1 g)
    have := pval_bd hb x
    omega
/-- a plain list of numbers between two has not many spans -/
theorem PlainF.len_in {a lo hi : Int} {l : List Sp} (h : PlainF a l) (hlo : ∀ x, InS l x → lo ≤ x) (hhi : ∀ x, InS l x → x ≤ hi) (hle : lo ≤ hi + 1) : 2 * (l.length : Int) ≤ hi - lo + 2 := by
  induction l generalizing a lo with
  | nil => simp; omega
  | cons p l ih =>
    obtain ⟨h1, h2, h3, h4⟩ := h
    have g1 := hlo p.1 (.inl ⟨by omega, h2⟩)
    have g2 := hhi p.2 (.inl ⟨h2, by omega⟩)
    cases l with
    | nil => simp; omega
    | cons q l =>
      have g3 := hhi q.1 (.inr (.inl ⟨by omega, h4.2.1⟩))
      have g4 := h4.1
      have := ih h4 (lo := p.2 + 2) (fun x hx => by have := h4.low hx; omega) (fun x hx => hhi x (.inr hx)) (by omega)
      simp only [List.length_cons] at this ⊢
      omega
theorem topM_len {a m : List Sp} (h : Rep m (topM a)) : m.length ≤ 1048576 := by
  have := PlainF.len_in h.1 (lo := 0) (hi := 2097151) (fun x hx => ((topM_iff a x).1 ((h.2 x).1 hx)).2.1) (fun x hx => ((topM_iff a x).1 ((h.2 x).1 hx)).2.2) (by omega)
  omega
theorem topM_mem {a m : List Sp} (h : Rep m (topM a)) {k : Nat} {x1 x2 : Int} (hk : m[k]? = some (x1, x2)) : 0 ≤ x1 ∧ x1 ≤ x2 ∧ x2 ≤ 2097151 := by
  have hp := PlainF.mem h.1 (List.mem_of_getElem? hk)
  have h12 : x1 ≤ x2 := by simp only at hp; omega
  have g1 := (topM_iff a x1).1 ((h.2 x1).1 (InS_of_mem (List.mem_of_getElem? hk) (Int.le_refl _) h12))
  have g2 := (topM_iff a x2).1 ((h.2 x2).1 (InS_of_mem (List.mem_of_getElem? hk) h12 (Int.le_refl _)))
  omega
/-- the spans that hold a set's numbers of a block -/
theorem pre_span {D T x1 x2 y1 y2 j x : Int} (hD : 1 ≤ D) (hT : 1 ≤ T) (h0 : 0 ≤ y1) (h1 : y2 ≤ T - 1) :
    (max x1 ((j * T + y1) * D) ≤ x ∧ x ≤ min x2 ((j * T + y2 + 1) * D - 1)) ↔ (x1 ≤ x ∧ x ≤ x2 ∧ x / D / T = j ∧ y1 ≤ x / D % T ∧ x / D % T ≤ y2) := by
  have e1 : (j * T + y1) * D ≤ x ↔ j * T + y1 ≤ x / D := (Int.le_ediv_iff_mul_le (by omega)).symm
  have e2 : x ≤ (j * T + y2 + 1) * D - 1 ↔ x / D ≤ j * T + y2 := by
    have := Int.ediv_lt_iff_lt_mul (a := x) (b := j * T + y2 + 1) (c := D) (by omega)
    omega
  have e3 : (j * T + y1 ≤ x / D ∧ x / D ≤ j * T + y2) ↔ (x / D / T = j ∧ y1 ≤ x / D % T ∧ x / D % T ≤ y2) := by
    generalize x / D = z
    have ez := Int.mul_ediv_add_emod z T
    have z0 := Int.emod_nonneg z (b := T) (by omega)
    have z1 := Int.emod_lt_of_pos z (b := T) (by omega)
    constructor
    · rintro ⟨g1, g2⟩
      have q := div_eq (T := T) (lo := z) (q := j) (m := z - T * j) (by omega) (by rw [Int.mul_comm]; omega) (by rw [Int.mul_comm]; omega)
      rw [q.1, q.2, Int.mul_comm]
      omega
    · rintro ⟨rfl, g1, g2⟩
      rw [Int.mul_comm] at ez
      omega
  omega
end Go.Proofs.Ytdaagdohhnhbdaa
