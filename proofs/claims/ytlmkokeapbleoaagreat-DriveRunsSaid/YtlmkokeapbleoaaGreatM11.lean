/- Contracts and plain laws that the law's proof leans on: PartLaw Image Fits DescHead MkHas Mk MkNode. Condition: as each theorem says. -/
import Derived.Test.YtlmkokeapbleoaaGreatM04
import Derived.Test.YtlmkokeapbleoaaGreatM06
import Derived.Test.YtlmkokeapbleoaaGreatM10
import Derived.Deep.Cut
import Derived.Deep.CutBlock
import Derived.Lib.MinMax
import Derived.Deep.RegionHeld3
import Derived.Deep.DeepCutAuto
import Derived.Test.YtlmkokeapbleoaaGreatM05
set_option maxRecDepth 100000
set_option maxHeartbeats 64000000
set_option linter.unusedVariables false
set_option linter.unusedSimpArgs false
namespace Go.Proofs.YtlmkokeapbleoaaGreat
section
open Go.RowKit
theorem div_span {D x1 x2 y : Int} (hD : 1 ≤ D) (hx : x1 ≤ x2) : (∃ x, x1 ≤ x ∧ x ≤ x2 ∧ x / D = y) ↔ (x1 / D ≤ y ∧ y ≤ x2 / D) := by
 constructor
 ·rintro ⟨x, h1, h2, rfl⟩
  exact ⟨Int.ediv_le_ediv (by omega) h1, Int.ediv_le_ediv (by omega) h2⟩
 ·rintro ⟨h1, h2⟩
  have h3 : y * D ≤ x2 := (Int.le_ediv_iff_mul_le (by omega)).1 h2
  by_cases h : x1 ≤ y * D
  ·exact ⟨y * D, h, h3, Int.mul_ediv_cancel _ (by omega)⟩
  ·have : y ≤ x1 / D := (Int.le_ediv_iff_mul_le (by omega)).2 (by omega)
   exact ⟨x1, Int.le_refl _, hx, by omega⟩
theorem res_all {T lo hi v : Int} (hT : 1 ≤ T) (h : T - 1 ≤ hi - lo) (h0 : 0 ≤ v) (h1 : v < T) : ∃ y, lo ≤ y ∧ y ≤ hi ∧ y % T = v := by
 have g0 := Int.emod_nonneg (v - lo) (b := T) (by omega)
 have g1 := Int.emod_lt_of_pos (v - lo) (b := T) (by omega)
 refine ⟨lo + (v - lo) % T, by omega, by omega, ?_⟩
 rw [Int.add_emod_emod, show lo + (v - lo) = v by omega]
 exact Int.emod_eq_of_lt h0 h1
theorem div_eq {T lo q m : Int} (h : lo = T * q + m) (h0 : 0 ≤ m) (h1 : m < T) : lo / T = q ∧ lo % T = m := by
 subst h
 have hT : T ≠ 0 := by omega
 constructor
 ·rw [Int.add_comm, Int.add_mul_ediv_left _ _ hT, Int.ediv_eq_zero_of_lt h0 h1]; omega
 ·rw [Int.add_comm, Int.add_mul_emod_self_left]; exact Int.emod_eq_of_lt h0 h1
theorem res_span {T lo hi v : Int} (hT : 1 ≤ T) (hl : lo ≤ hi) (h : hi - lo < T - 1) :
  (∃ y, lo ≤ y ∧ y ≤ hi ∧ y % T = v) ↔ (if lo % T ≤ hi % T then lo % T ≤ v ∧ v ≤ hi % T else (0 ≤ v ∧ v ≤ hi % T) ∨ (lo % T ≤ v ∧ v ≤ T - 1)) := by
 have a0 := Int.emod_nonneg lo (b := T) (by omega)
 have a1 := Int.emod_lt_of_pos lo (b := T) (by omega)
 have b0 := Int.emod_nonneg hi (b := T) (by omega)
 have b1 := Int.emod_lt_of_pos hi (b := T) (by omega)
 have ea := Int.mul_ediv_add_emod lo T
 have eb := Int.mul_ediv_add_emod hi T
 have hq : lo / T ≤ hi / T := Int.ediv_le_ediv (by omega) hl
 have hcase : hi / T = lo / T ∨ hi / T = lo / T + 1 ∨ lo / T + 2 ≤ hi / T := by omega
 have h2 : lo / T + 2 ≤ hi / T → False := by
  intro g
  have := Int.mul_le_mul_of_nonneg_left g (show 0 ≤ T by omega)
  rw [Int.mul_add] at this
  omega
 have hstep : T * (lo / T + 1) = T * (lo / T) + T := by rw [Int.mul_add, Int.mul_one]
 split
 ·rename_i hle
  have e : hi / T = lo / T := by
   rcases hcase with e | e | e
   ·exact e
   ·rw [e, hstep] at eb; omega
   ·exact (h2 e).elim
  rw [e] at eb
  constructor
  ·rintro ⟨y, g1, g2, rfl⟩
   have ey := Int.mul_ediv_add_emod y T
   have q1 : lo / T ≤ y / T := Int.ediv_le_ediv (by omega) g1
   have q2 : y / T ≤ hi / T := Int.ediv_le_ediv (by omega) g2
   have : y / T = lo / T := by omega
   rw [this] at ey
   omega
  ·rintro ⟨g1, g2⟩
   exact ⟨T * (lo / T) + v, by omega, by omega, (div_eq rfl (by omega) (by omega)).2⟩
 ·rename_i hle
  have e : hi / T = lo / T + 1 := by
   rcases hcase with e | e | e
   ·rw [e] at eb; omega
   ·exact e
   ·exact (h2 e).elim
  rw [e, hstep] at eb
  constructor
  ·rintro ⟨y, g1, g2, rfl⟩
   have ey := Int.mul_ediv_add_emod y T
   have y0 := Int.emod_nonneg y (b := T) (by omega)
   have y1 := Int.emod_lt_of_pos y (b := T) (by omega)
   have q1 : lo / T ≤ y / T := Int.ediv_le_ediv (by omega) g1
   have q2 : y / T ≤ hi / T := Int.ediv_le_ediv (by omega) g2
   have : y / T = lo / T ∨ y / T = lo / T + 1 := by omega
   rcases this with q | q
   ·rw [q] at ey; right; omega
   ·rw [q, hstep] at ey; left; omega
  ·rintro (⟨g1, g2⟩ | ⟨g1, g2⟩)
   ·exact ⟨T * (lo / T + 1) + v, by rw [hstep]; omega, by rw [hstep]; omega, (div_eq rfl (by omega) (by omega)).2⟩
   ·exact ⟨T * (lo / T) + v, by omega, by omega, (div_eq rfl (by omega) (by omega)).2⟩
theorem InS_one (a b x : Int) : InS [(a, b)] x ↔ (a ≤ x ∧ x ≤ b) := by simp [InS]
theorem InS_take_succ {m : List Sp} {k : Nat} {p : Sp} (h : m[k]? = some p) (x : Int) : InS (m.take (k + 1)) x ↔ (InS (m.take k) x ∨ (p.1 ≤ x ∧ x ≤ p.2)) := by
 rw [take_snoc? h, InS_append]; simp [InS]
def ImInv (D T : Int) (m : List Sp) (o : List Sp) : Prop := (∀ v, InS o v ↔ ∃ x, InS m x ∧ x / D % T = v) ∧ ∀ p ∈ o, 0 ≤ p.1 ∧ p.1 ≤ p.2 ∧ p.2 ≤ T - 1
theorem ImInv.start (D T : Int) : ImInv D T [] [] := ⟨fun v => by simp [InS], by simp⟩
theorem im_span {D T : Int} (hD : 1 ≤ D) {x1 x2 : Int} (hx : x1 ≤ x2) (v : Int) : (∃ x, x1 ≤ x ∧ x ≤ x2 ∧ x / D % T = v) ↔ ∃ y, x1 / D ≤ y ∧ y ≤ x2 / D ∧ y % T = v := by
 constructor
 ·rintro ⟨x, h1, h2, h3⟩
  have := (div_span hD hx).1 ⟨x, h1, h2, rfl⟩
  exact ⟨_, this.1, this.2, h3⟩
 ·rintro ⟨y, h1, h2, h3⟩
  obtain ⟨x, g1, g2, rfl⟩ := (div_span hD hx).2 ⟨h1, h2⟩
  exact ⟨x, g1, g2, h3⟩
theorem ImInv.next {D T : Int} {m : List Sp} {o : List Sp} {k : Nat} {x1 x2 : Int} {n : List Sp} (h : ImInv D T (m.take k) o) (hx : m[k]? = some (x1, x2))
  (hn : ∀ v, InS n v ↔ ∃ x, x1 ≤ x ∧ x ≤ x2 ∧ x / D % T = v) (hb : ∀ p ∈ n, 0 ≤ p.1 ∧ p.1 ≤ p.2 ∧ p.2 ≤ T - 1) : ImInv D T (m.take (k + 1)) (o ++ n) := by
 refine ⟨fun v => ?_, fun p hp => ?_⟩
 ·rw [InS_append, h.1, hn]
  constructor
  ·rintro (⟨x, g1, g2⟩ | ⟨x, g1, g2, g3⟩)
   ·exact ⟨x, (InS_take_succ hx x).2 (.inl g1), g2⟩
   ·exact ⟨x, (InS_take_succ hx x).2 (.inr ⟨g1, g2⟩), g3⟩
  ·rintro ⟨x, g1, g2⟩
   rcases (InS_take_succ hx x).1 g1 with g | g
   ·exact .inl ⟨x, g, g2⟩
   ·exact .inr ⟨x, g.1, g.2, g2⟩
 ·rcases List.mem_append.1 hp with g | g
  ·exact h.2 p g
  ·exact hb p g
theorem ImInv.one {D T : Int} {m : List Sp} {o : List Sp} {k : Nat} {x1 x2 : Int} (hD : 1 ≤ D) (hT : 1 ≤ T) (h : ImInv D T (m.take k) o) (hx : m[k]? = some (x1, x2)) (hxx : x1 ≤ x2)
  (hs : x2 / D - x1 / D < T - 1) (hle : x1 / D % T ≤ x2 / D % T) : ImInv D T (m.take (k + 1)) (o ++ [(x1 / D % T, x2 / D % T)]) := by
 have a0 := Int.emod_nonneg (x1 / D) (b := T) (by omega)
 have b1 := Int.emod_lt_of_pos (x2 / D) (b := T) (by omega)
 refine h.next hx (fun v => ?_) (fun p hp => by simp at hp; subst hp; simp only; omega)
 rw [InS_one, im_span hD hxx, res_span hT (Int.ediv_le_ediv (by omega) hxx) hs, if_pos hle]
theorem ImInv.two {D T : Int} {m : List Sp} {o : List Sp} {k : Nat} {x1 x2 : Int} (hD : 1 ≤ D) (hT : 1 ≤ T) (h : ImInv D T (m.take k) o) (hx : m[k]? = some (x1, x2)) (hxx : x1 ≤ x2)
  (hs : x2 / D - x1 / D < T - 1) (hle : ¬ x1 / D % T ≤ x2 / D % T) : ImInv D T (m.take (k + 1)) (o ++ [(0, x2 / D % T), (x1 / D % T, T - 1)]) := by
 have a0 := Int.emod_nonneg (x1 / D) (b := T) (by omega)
 have a1 := Int.emod_lt_of_pos (x1 / D) (b := T) (by omega)
 have b0 := Int.emod_nonneg (x2 / D) (b := T) (by omega)
 have b1 := Int.emod_lt_of_pos (x2 / D) (b := T) (by omega)
 refine h.next hx (fun v => ?_) (fun p hp => by simp at hp; rcases hp with rfl | rfl <;> simp only <;> omega)
 rw [im_span hD hxx, res_span hT (Int.ediv_le_ediv (by omega) hxx) hs, if_neg hle]
 simp [InS]
theorem ImInv.full {D T : Int} {m : List Sp} {k : Nat} {x1 x2 : Int} (hD : 1 ≤ D) (hT : 1 ≤ T) (hx : m[k]? = some (x1, x2)) (hxx : x1 ≤ x2)
  (hs : T - 1 ≤ x2 / D - x1 / D) : ImInv D T m [(0, T - 1)] := by
 refine ⟨fun v => ?_, fun p hp => by simp at hp; subst hp; simp only; omega⟩
 rw [InS_one]
 constructor
 ·rintro ⟨h0, h1⟩
  obtain ⟨x, g1, g2, g3⟩ := (im_span hD hxx v).2 (res_all hT hs h0 (by omega))
  exact ⟨x, InS_of_mem (List.mem_of_getElem? hx) g1 g2, g3⟩
 ·rintro ⟨x, _, rfl⟩
  have := Int.emod_nonneg (x / D) (b := T) (by omega)
  have := Int.emod_lt_of_pos (x / D) (b := T) (by omega)
  omega
theorem nums_mem (r : List Sp) (x : Int) : x ∈ nums r ↔ InS r x := by
 rw [InS_iff]
 simp only [nums, List.mem_flatMap, numsOf, List.mem_map, List.mem_range]
 constructor
 ·rintro ⟨p, hp, i, hi, rfl⟩
  exact ⟨p, hp, by omega, by omega⟩
 ·rintro ⟨p, hp, h1, h2⟩
  exact ⟨p, hp, (x - p.1).toNat, by omega, by omega⟩
def ImgS (d t u : Int) (a : List Sp) (v : Int) : Prop := bitsB d t u = true ∧ ∃ x, Mem a x ∧ 0 ≤ x ∧ x ≤ 2097151 ∧ pval d t u x = v
def topM (a : List Sp) (x : Int) : Prop := Mem a x ∧ Mem [(0, 2097151)] x
theorem topM_iff (a : List Sp) (x : Int) : topM a x ↔ (Mem a x ∧ 0 ≤ x ∧ x ≤ 2097151) := by
 constructor
 ·rintro ⟨h, _, _, h3⟩
  exact ⟨h, (InS_one _ _ _).1 h3⟩
 ·rintro ⟨h, h3⟩
  exact ⟨h, h.1, h.2.1, (InS_one _ _ _).2 h3⟩
theorem rep_img (d t u : Int) (a : List Sp) : ∃ r, Hid (Rep r (ImgS d t u a)) := rep_all _ fun v ⟨hb, x, _, _, _, hv⟩ => by have := pval_bd hb x; omega
theorem ImInv.rep0 {d t : Int} {a m o r : List Sp} (hb : bitsB d t 0 = true) (hm : Rep m (topM a)) (h : ImInv (pw d) (pw t) m o) (hr : Rep r (Mem o)) : Rep r (ImgS d t 0 a) := by
 refine hr.congr fun v => ?_
 have ht := pw_le21 (n := t) (by have := (bitsB_iff _ _ _).1 hb; omega) (by have := (bitsB_iff _ _ _).1 hb; omega)
 have e : Mem o v ↔ InS o v := by
  refine ⟨fun h => h.2.2, fun hv => ?_⟩
  obtain ⟨p, hp, g1, g2⟩ := (InS_iff _ _).1 hv
  have := h.2 p hp
  exact ⟨by omega, by omega, hv⟩
 rw [e, h.1]
 unfold ImgS
 simp only [hm.2, topM_iff, hb, true_and, pval]
 have e0 : pw 0 = 1 := rfl
 simp only [e0, Int.mul_one, and_assoc]
theorem ImInv.repU {d t u : Int} {a m o r : List Sp} (hb : bitsB d t u = true) (hm : Rep m (topM a)) (h : ImInv (pw d) (pw t) m o) (hr : Rep r (Mem o)) {s : List Sp}
  (hs : Rep s (Mem ((nums r).map fun v => (v * pw u, v * pw u)))) : Rep s (ImgS d t u a) := by
 refine hs.congr fun v => ?_
 obtain ⟨b1, b2, b3, b4, b5, b6, b7⟩ := (bitsB_iff _ _ _).1 hb
 have ht := pw_le21 (n := t) (by omega) b4
 have e : ∀ y, InS r y ↔ InS o y := fun y => by
  rw [hr.2]
  refine ⟨fun h => h.2.2, fun hv => ?_⟩
  obtain ⟨p, hp, g1, g2⟩ := (InS_iff _ _).1 hv
  have := h.2 p hp
  exact ⟨by omega, by omega, hv⟩
 have e2 : InS ((nums r).map fun v => (v * pw u, v * pw u)) v ↔ ∃ y, InS r y ∧ y * pw u = v := by
  rw [InS_iff]
  constructor
  ·rintro ⟨p, hp, g1, g2⟩
   obtain ⟨y, hy, rfl⟩ := List.mem_map.1 hp
   exact ⟨y, (nums_mem r y).1 hy, by simp only at g1 g2; omega⟩
  ·rintro ⟨y, hy, rfl⟩
   exact ⟨_, List.mem_map.2 ⟨y, (nums_mem r y).2 hy, rfl⟩, Int.le_refl _, Int.le_refl _⟩
 have e3 : ImgS d t u a v ↔ ∃ y, InS r y ∧ y * pw u = v := by
  unfold ImgS
  constructor
  ·rintro ⟨_, x, hx, h0, h1, rfl⟩
   exact ⟨_, (e _).2 ((h.1 _).2 ⟨x, (hm.2 x).2 ((topM_iff a x).2 ⟨hx, h0, h1⟩), rfl⟩), rfl⟩
  ·rintro ⟨y, hy, rfl⟩
   obtain ⟨x, hx, rfl⟩ := (h.1 _).1 ((e _).1 hy)
   obtain ⟨g1, g2, g3⟩ := (topM_iff a x).1 ((hm.2 x).1 hx)
   exact ⟨hb, x, g1, g2, g3, rfl⟩
 rw [e3, ← e2]
 refine ⟨fun g => g.2.2, fun g => ⟨?_, ?_, g⟩⟩
 all_goals
  obtain ⟨_, x, _, _, _, hv⟩ := e3.2 (e2.1 g)
  have := pval_bd hb x
  omega
theorem PlainF.len_in {a lo hi : Int} {l : List Sp} (h : PlainF a l) (hlo : ∀ x, InS l x → lo ≤ x) (hhi : ∀ x, InS l x → x ≤ hi) (hle : lo ≤ hi + 1) : 2 * (l.length : Int) ≤ hi - lo + 2 := by
 induction l generalizing a lo with
 | nil => simp; omega
 | cons p l ih =>
  obtain ⟨h1, h2, h3, h4⟩ := h
  have g1 := hlo p.1 (.inl ⟨by omega, h2⟩)
  have g2 := hhi p.2 (.inl ⟨h2, by omega⟩)
  cases l with
  | nil => simp; omega
  | cons q l =>
   have g3 := hhi q.1 (.inr (.inl ⟨by omega, h4.2.1⟩))
   have g4 := h4.1
   have := ih h4 (lo := p.2 + 2) (fun x hx => by have := h4.low hx; omega) (fun x hx => hhi x (.inr hx)) (by omega)
   simp only [List.length_cons] at this ⊢
   omega
theorem topM_len {a m : List Sp} (h : Rep m (topM a)) : m.length ≤ 1048576 := by
 have := PlainF.len_in h.1 (lo := 0) (hi := 2097151) (fun x hx => ((topM_iff a x).1 ((h.2 x).1 hx)).2.1) (fun x hx => ((topM_iff a x).1 ((h.2 x).1 hx)).2.2) (by omega)
 omega
theorem topM_mem {a m : List Sp} (h : Rep m (topM a)) {k : Nat} {x1 x2 : Int} (hk : m[k]? = some (x1, x2)) : 0 ≤ x1 ∧ x1 ≤ x2 ∧ x2 ≤ 2097151 := by
 have hp := PlainF.mem h.1 (List.mem_of_getElem? hk)
 have h12 : x1 ≤ x2 := by simp only at hp; omega
 have g1 := (topM_iff a x1).1 ((h.2 x1).1 (InS_of_mem (List.mem_of_getElem? hk) (Int.le_refl _) h12))
 have g2 := (topM_iff a x2).1 ((h.2 x2).1 (InS_of_mem (List.mem_of_getElem? hk) h12 (Int.le_refl _)))
 omega
end
section
open Go.RowKit Go.Shelf
attribute [local go_sem] Oper.semAt_some
def PBox (S : Nat) (a d t u : Int) (W : World) : Prop := W.cell? ⟨S, 0, none⟩ = some (.int .i64 a) ∧ W.cell? ⟨S, 1, none⟩ = some (.int .i64 d) ∧ W.cell? ⟨S, 2, none⟩ = some (.int .i64 t) ∧ W.cell? ⟨S, 3, none⟩ = some (.int .i64 u)
theorem St.pbox {w0 w : World} {F : World → Prop} (hK : Hid (St w0 w F)) (a d t u : Int) : Hid (St w0 (w.alloc (.cells #[.int .i64 a, .int .i64 d, .int .i64 t, .int .i64 u] 70)) (fun W => PBox w.heap.size a d t u W ∧ F W)) := by
 refine Lh (hK.out.add ((Below.refl _ _).alloc (Nat.le_refl _) _) (fun W hW => ?_))
 have hb := heap_alloc_new w (.cells #[.int .i64 a, .int .i64 d, .int .i64 t, .int .i64 u] 70)
 have key : ∀ j v, (#[.int .i64 a, .int .i64 d, .int .i64 t, .int .i64 u] : Array Value)[j]? = some v → W.cell? ⟨w.heap.size, j, none⟩ = some v := by
  intro j v hj
  rw [hW.cell (p := ⟨w.heap.size, j, none⟩) (by simp)]
  simp only [World.cell?, hb]
  exact hj
 exact ⟨key 0 _ rfl, key 1 _ rfl, key 2 _ rfl, key 3 _ rfl⟩
theorem bits_st {w0 w : World} {F : World → Prop} (hK : Hid (St w0 w F)) (a d t u : Int) {v : Bool} (hv : bitsB d t u = v) : Calls Tryz.prog 209 #[.agg #[.int .i64 a, .int .i64 d, .int .i64 t, .int .i64 u]] w (RetV w0 (.bool v) F) := by
 subst hv; exact retV_gives hK (bits_any a d t u w)
def shlV (u v : Int) : Int := IntKind.i64.wrap (v * 2 ^ u.toNat)
theorem rep_none {r : List Sp} {S : Int → Prop} (h : Rep r S) (hS : ∀ x, ¬ S x) : r = [] :=
 Rep.unique h (S := S) (T := fun _ => False) ⟨trivial, fun x => Iff.rfl⟩ (fun x => by simp [hS x])
theorem retL_nil {w0 w : World} {F : World → Prop} (hK : Hid (St w0 w F)) : RetL w0 [] F (.returned (.slice none 0 0)) w :=
 ⟨none, 0, rfl, Lh (hK.out.weaken fun W h => ⟨⟨Sl.nil_ _ _ _, fun p hp => (by cases hp), by simp⟩, h⟩)⟩
theorem band_T {t lo T : Int} (hT : Hid (pw t = T)) (h0 : 0 ≤ lo) (h1 : lo ≤ 2097151) (t0 : 0 ≤ t) (t1 : t ≤ 21) : bits .and .i64 lo (T - 1) = lo % T := by
 rw [← hT.out]; exact band_mask h0 (by omega) t0 t1
section
variable {w0 w : World} {F : World → Prop} {A : Option Addr} {a0 r : List Sp}
theorem Image_st (hK : Hid (St w0 w F)) (ha : ∀ W, F W → Lst A a0 W) (c : Nat) (a d t u : Int) (hr : Hid (Rep r (ImgS d t u a0))) :
  Calls Tryz.prog 230 #[.agg #[.int .i64 a, .int .i64 d, .int .i64 t, .int .i64 u], .slice A a0.length c] w (RetL w0 r F) := by
 have HK := St.pbox hK a d t u
 rcases hb : bitsB d t u with _ | _
 ·obtain rfl := rep_none hr.out (fun x h => by have := h.1; rw [hb] at this; cases this)
  have HBB := Lh hb
  clear hb
  go_enter Tryz.func230, Tryz.ntmps230
  go_wp2_with fail
  refine (bits_st HK a d t u HBB.out).mono ?_
  rintro e w1 ⟨rfl, HK⟩
  go_wp2_with fail
  go_ret
  exact retL_nil (Lh (HK.out.weaken fun W h => h.2))
 have HBB := Lh hb
 obtain ⟨b1, b2, b3, b4, b5, b6, b7⟩ := (bitsB_iff _ _ _).1 hb
 obtain ⟨m, Rm⟩ := rep_meet a0 [(0, 2097151)]
 have RM : Hid (Rep m (topM a0)) := Rm
 have hml := topM_len RM.out
 obtain ⟨T, hT⟩ : ∃ T, (2 : Int) ^ t.toNat = T := ⟨_, rfl⟩
 have HT : Hid (pw t = T) := Lh hT
 obtain ⟨D, hD⟩ : ∃ D, (2 : Int) ^ d.toNat = D := ⟨_, rfl⟩
 have HD : Hid (pw d = D) := Lh hD
 have hT1 : 1 ≤ T ∧ T ≤ 2097152 := by have h1 := pw_pos t; have h2 := pw_le21 (n := t) (by omega) b4; rw [HT.out] at h1 h2; exact ⟨h1, h2⟩
 have hD1 : 1 ≤ D := by have h1 := pw_pos d; rw [HD.out] at h1; exact h1
 obtain ⟨hT1, hT2⟩ := hT1
 clear hb b7
 refine (callsIn_wide (n := 8)).1 ?_
 refine callsIn_of_wp_marks Tryz.func230 rfl trivial ?_ rfl
 refine wpIn_wide.2 ?_
 simp only [Tryz.ntmps230, List.size_toArray, List.length_cons, List.length_nil, Nat.reduceAdd, Nat.reduceSub, Array.replicate_succ, Array.replicate_zero, List.push_toArray, List.append_toArray, List.nil_append, List.cons_append]
 go_wp2_with fail
 refine (bits_st HK a d t u HBB.out).mono ?_
 rintro e w1 ⟨rfl, HK⟩
 obtain ⟨hp0, hp1, hp2, hp3⟩ := HK.out.now.1
 go_wp2_with fail
 have HK := St.lit HK (0, 2097151) (by intro p hp; simp at hp; subst hp; simp)
 refine (Meet_st HK (fun _ h => ha _ h.2.2) (fun _ h => h.1) _ _ Rm).mono ?_
 rintro e w3 ⟨A1, c1, rfl, HK⟩
 clear hp0 hp1 hp2 hp3
 go_upto_block 0 with fail
 go_cut [6] from 13 (fun v wr => ∃ (o : List Sp) (Ao : Option Addr) (co : Nat), v = .slice Ao o.length co ∧ o.length ≤ 2097153 ∧ Hid (SRow wr w3.heap.size Ao co o) ∧ Hid (ImInv D T m o) ∧ Hid (Below w3.heap.size w3 wr))
 case first =>
  go_wp2_with fail
  go_loopw [6, 25] (fun v i wr => ∃ (k : Nat) (o : List Sp) (Ao : Option Addr) (co : Nat), k ≤ m.length ∧ i = .int .i64 k ∧ v = .slice Ao o.length co ∧ o.length ≤ 2 * k ∧ Hid (SRow wr w3.heap.size Ao co o) ∧ Hid (ImInv D T (m.take k) o) ∧ Hid (Below w3.heap.size w3 wr)) (fun _ i _ => m.length - (intOf i).toNat)
  case atStart => exact ⟨0, [], none, 0, Nat.zero_le _, rfl, rfl, by simp, Lh (SRow.start _ _), Lh (ImInv.start _ _), Lh (Below.refl _ _)⟩
  case round =>
  obtain ⟨k, o, Ao, co, hk, rfl, rfl, hol, HO, HI, HB⟩ := hrel
  have HS := Lh (HK.out.step HB.out)
  by_cases hlt : k < m.length
  ·obtain ⟨g, off, p, hA, hp, hc1, hc2⟩ := HS.out.now.1.sp.at_ hlt
   obtain ⟨x1, x2⟩ := p
   obtain ⟨hx0, hx12, hx2⟩ := topM_mem RM.out hp
   obtain ⟨hp0, hp1, hp2, hp3⟩ := HS.out.now.2.2.1
   have HP := Lh hp
   simp only at hc1 hc2
   obtain ⟨lo, hlo⟩ : ∃ z, x1 / D = z := ⟨_, rfl⟩
   obtain ⟨hi, hhi⟩ : ∃ z, x2 / D = z := ⟨_, rfl⟩
   have HLO := Lh hlo
   have HHI := Lh hhi
   have hlo0 : 0 ≤ lo := by rw [← hlo]; exact Int.ediv_nonneg hx0 (by omega)
   have hlh : lo ≤ hi := by rw [← hlo, ← hhi]; exact Int.ediv_le_ediv (by omega) hx12
   have hhi2 : hi ≤ 2097151 := by rw [← hhi]; exact Int.le_trans (Int.ediv_le_self _ (by omega)) hx2
   obtain ⟨la, hla⟩ : ∃ z, bits BinOp.and IntKind.i64 lo (T - 1) = z := ⟨_, rfl⟩
   obtain ⟨lb, hlb⟩ : ∃ z, bits BinOp.and IntKind.i64 hi (T - 1) = z := ⟨_, rfl⟩
   have HLA : Hid (lo % T = la) := by unfold Hid; rw [← hla]; exact (band_T HT hlo0 (by omega) (by omega) b4).symm
   have HLB : Hid (hi % T = lb) := by unfold Hid; rw [← hlb]; exact (band_T HT (by omega) hhi2 (by omega) b4).symm
   have hgw := lt_of_cell hc1
   have hbw := lt_of_cell hp1
   subst hA
   clear hp
   by_cases hfull : T - 1 ≤ hi - lo
   ·go_wp2_with (go_quiet (fail))
    go_meet
    case rel =>
     exact ⟨[(0, T - 1)], _, _, rfl, by simp, Lh (SRow.lit' (by simp) (by have := HB.out.size; simp; omega)), Lh (ImInv.full hD1 hT1 HP.out hx12 (by rw [HLO.out, HHI.out]; exact hfull)),
      Lh ((below_drewN (HB.out.alloc HB.out.size _) _).alloc (by have := HB.out.size; simp; omega) _)⟩
   ·have hnf : ¬ (T - 1 ≤ hi - lo) := hfull
    by_cases hle : la ≤ lb
    ·go_wp2_with (first | go_quiet (fail) | (at_builtin; go_must (refine wpList_pushS rfl _ _ rfl (((HO.out.alloc _).drewN _)) rfl (by first | rfl | (simp; rfl) | simp) (by omega) (by have := HB.out.size; simp; omega) ?_); intro l2 A2 c2 w5 HL2 HO2 HG2 _))
     have HI2 := Lh (HI.out.one hD1 hT1 HP.out hx12 (by rw [HLO.out, HHI.out]; omega) (by rw [HLO.out, HHI.out, HLA.out, HLB.out]; exact hle))
     rw [HLO.out, HHI.out, HLA.out, HLB.out, ← HL2.out] at HI2
     have hl2 : l2.length = o.length + 1 := by rw [HL2.out]; simp
     refine ⟨⟨k + 1, l2, A2, c2, by omega, by go_num, rfl, by omega, HO2, HI2, Lh (SRow.pushed (below_drewN (HB.out.alloc HB.out.size _) _) ((HO.out.alloc _).drewN _) (Nat.le_refl _) (by have := HB.out.size; simp; omega) HG2.out)⟩, by simp [intOf]; omega⟩
    ·go_wp2_with (first | go_quiet (fail) | (at_builtin; go_must (refine wpList_pushS2 rfl _ _ rfl (((HO.out.alloc _).drewN _)) rfl (by first | rfl | (simp; rfl) | simp) (by omega) (by have := HB.out.size; simp; omega) ?_); intro l2 A2 c2 w5 HL2 HO2 HG2 _))
     have HI2 := Lh (HI.out.two hD1 hT1 HP.out hx12 (by rw [HLO.out, HHI.out]; omega) (by rw [HLO.out, HHI.out, HLA.out, HLB.out]; exact hle))
     rw [HLO.out, HHI.out, HLA.out, HLB.out, ← HL2.out] at HI2
     have hl2 : l2.length = o.length + 2 := by rw [HL2.out]; simp
     refine ⟨⟨k + 1, l2, A2, c2, by omega, by go_num, rfl, by omega, HO2, HI2, Lh (SRow.pushed (below_drewN (HB.out.alloc HB.out.size _) _) ((HO.out.alloc _).drewN _) (Nat.le_refl _) (by have := HB.out.size; simp; omega) HG2.out)⟩, by simp [intOf]; omega⟩
  ·obtain rfl : k = m.length := by omega
   have hd : decide (m.length < m.length) = false := by simp
   have HIm := Lh HI.out
   rw [List.take_length] at HIm
   go_wp2_with fail
   go_meet
   case rel => exact ⟨o, Ao, co, rfl, by omega, HO, HIm, HB⟩
 case rest =>
  obtain ⟨o, Ao, co, rfl, hol, HO, HI, HB⟩ := hcut
  have hwd : SpW o := fun p hp => by have := HI.out.2 p hp; omega
  have HK4 := Lh (HK.out.add (G := fun W => True) HB.out (fun W hW => trivial))
  have HK := Lh (HK4.out.add (Below.refl _ _) (G := Lst Ao o) (fun W hW => ⟨HO.out.spans.below hW, hwd, by omega⟩))
  obtain ⟨ro, Ro⟩ := rep_norm o
  go_wp2_with fail
  refine (Norm_st HK (fun _ h => h.1) _ Ro).mono ?_
  rintro e w5 ⟨A5, c5, rfl, HK⟩
  obtain ⟨hp0, hp1, hp2, hp3⟩ := HK.out.now.2.2.2.2.2.1
  have hps := lt_of_cell hp3
  by_cases hu : u = 0
  ·subst hu
   have HIp : Hid (ImInv (pw d) (pw t) m o) := by unfold Hid; rw [HD.out, HT.out]; exact HI.out
   obtain rfl := Rep.unique (HIp.out.rep0 HBB.out RM.out Ro.out) hr.out (fun _ => Iff.rfl)
   go_wp2_with fail
   refine leaveM_nil (.slice A5 ro.length c5) (by simp [results, Tryz.f230, go_sem]) ?_
   exact ⟨_, _, rfl, Lh (HK.out.weaken fun W h => ⟨h.1, h.2.2.2.2.2.2⟩)⟩
  ·have hu0 : (u == 0) = false := by simpa using hu
   have hnl : (nums ro).length ≤ 2147483650 := by have h1 := nums_length Ro.out.1; have h2 := Ro.out.1.cnt_bd; omega
   have hSr : Hid (Rep ro (Mem ro)) := Lh (Rep.self Ro.out.1)
   have HW5 := Lh ((Below.refl w5.heap.size w5).alloc (Nat.le_refl _) (.cells #[.slice none 0 0] 103))
   have HBN := Lh (BoxRow.new w5 (w5.heap.size + 1))
   have HKA := Lh (HK.out.add HW5.out (G := fun W => True) (fun _ _ => trivial))
   have HE := Lh (Each_any A5 ro.length c5 ro ro (w5.alloc (.cells #[.slice none 0 0] 103)) HKA.out.now.2.1.sp HKA.out.now.2.1.wd HKA.out.now.2.1.len hSr.out)
   go_wp2_with fail
   refine HE.out.mono ?_
   rintro e w6 ⟨B, g, c6, rfl, hbd, hcB, hsp, hb6⟩
   have HB6 := Lh (show Below w5.heap.size w5 w6 from HW5.out.trans (hb6.mono (by simp)))
   have hsz : (w5.alloc (.cells #[.slice none 0 0] 103)).heap.size = w5.heap.size + 1 := by simp
   rw [hsz] at hbd
   obtain ⟨Ab, cb, hbx, hbf, hbr⟩ := HBN.out
   have hbx6 := (hb6.cell (lt_of_cell hbx)).trans hbx
   have hbf6 := (hb6.frozen (lt_of_cell hbx)).trans hbf
   have HB0 : Hid (BoxRow w5.heap.size (w5.heap.size + 1) [] w6) := by
    refine ⟨none, 0, ?_, hbf6, SRow.start _ _⟩
    rw [hb6.cell (p := ⟨w5.heap.size, 0, none⟩) (by simp)]
    have hb := heap_alloc_new w5 (.cells #[.slice none 0 0] 103)
    simp only [World.cell?, hb]; rfl
   have hno : ∀ k, OwnB w5.heap.size (w5.heap.size + 1) w5.heap.size w6 k ↔ k = w5.heap.size := by
    intro k
    obtain ⟨A0, c0, q1, _, q3⟩ := HB0.out
    have : w6.cell? ⟨w5.heap.size, 0, none⟩ = some (.slice none 0 0) := by
     rw [hb6.cell (p := ⟨w5.heap.size, 0, none⟩) (by simp)]
     have hb := heap_alloc_new w5 (.cells #[.slice none 0 0] 103)
     simp only [World.cell?, hb]; rfl
    unfold OwnB
    rw [this]
    simp; omega
   have HSQ := Lh (each_stops Fence.wide 7 trivial rfl (by omega) w5.heap.size (w5.heap.size + 1) w5.heap.size B g c6 ro hSr.out.1 w6 (by omega) (fun k hk => by have := (hno k).1 hk; omega) (fun hk => by have := (hno g).1 hk; omega) hcB (by omega) hsp)
   clear hno hcB hsp hb6 HE hbx hbf hbx6 hbf6 hbr
   go_wp2_with fail
   refine wp_rangeFunc (gf := 249) (lb := #[.pointer (some ⟨B, 0, none⟩)]) rfl (enters_of Tryz.func249 (by kernel_rfl) rfl) HSQ.out kpB_t (kpB_b (by omega)) (fun _ => rfl)
    (fun pre W => BoxRow w5.heap.size (w5.heap.size + 1) (pre.map fun v => (shlV u v, shlV u v)) W ∧ (pre.length ≤ (nums ro).length ∧ Below w5.heap.size w5 W))
    (fun _ _ _ => False)
    (OwnFrom.and (BoxRow.own _ _ _ _) (OwnFrom.and (ownFrom_pure _ _) (ownFrom_below (Nat.le_refl _) (by omega))))
    (fun _ _ _ _ _ h _ _ => h)
    ⟨HB0.out, Nat.zero_le _, HB6.out⟩
    ?act ?assign ?body ?done ?stop
   case assign =>
    intro l x W K hK
    gi_wp2
    exact hK
   case body =>
    rintro l pre x W ⟨hbr, hlen1, hbW⟩ hlen
    obtain ⟨Ab, cb, hv, hf, hrow⟩ := hbr
    obtain ⟨hp0, hp1, hp2, hp3⟩ := (HK.out.step hbW).now.2.2.2.2.2.1
    gi_wp2
    obtain ⟨y, hy⟩ : ∃ y, IntKind.i64.wrap (x * 2 ^ u.toNat) = y := ⟨_, rfl⟩
    obtain ⟨o, ho⟩ : ∃ o, o = pre.map fun v => (shlV u v, shlV u v) := ⟨_, rfl⟩
    rw [← ho] at hv hrow
    have hol : o.length < 1099511627776 := by rw [ho, List.length_map]; omega
    have HOE := Lh ho
    have HROW := Lh hrow
    have HBW := Lh hbW
    clear ho hrow hbW
    refine region_round_held (by kernel_rfl) (fun _ _ h => h) (by kernel_rfl) (fun w' => w'.cell? ⟨w.heap.size, 3, none⟩ = some (.int .i64 u)) hp3 (fun hHeld => ?_)
    refine wpAnyH_take (i := 1) (v := ?_) rfl (by kernel_rfl) (by kernel_rfl) (by kernel_rfl) (fun _ _ _ h => h) (Or.inl ⟨by first | kernel_rfl | rfl, ?_⟩) (by assumption) ?_
    rotate_left
    ·intro w hSw; (try dsimp only at hSw); go_simp; (try with_reducible rfl)
    (try simp only [Act.put, zq1, zq2, zq3, zq4, zq5, zq6])
    refine wpAnyH_take (i := 2) (v := ?_) rfl (by kernel_rfl) (by kernel_rfl) (by kernel_rfl) (fun _ _ _ h => h) (Or.inl ⟨by first | kernel_rfl | rfl, ?_⟩) (by assumption) ?_
    rotate_left
    ·intro w hSw; (try dsimp only at hSw); go_simp; (try with_reducible rfl)
    (try simp only [Act.put, zq1, zq2, zq3, zq4, zq5, zq6])
    refine wpAnyH_take (i := 3) (v := ?_) rfl (by kernel_rfl) (by kernel_rfl) (by kernel_rfl) (fun _ _ _ h => h) (Or.inl ⟨by first | kernel_rfl | rfl, ?_⟩) (by assumption) ?_
    rotate_left
    ·intro w hSw; (try dsimp only at hSw); go_simp; (try with_reducible rfl)
    (try simp only [Act.put, zq1, zq2, zq3, zq4, zq5, zq6])
    refine wpAnyH_take (i := 4) (v := ?_) rfl (by kernel_rfl) (by kernel_rfl) (by kernel_rfl) (fun _ _ _ h => h) (Or.inl ⟨by first | kernel_rfl | rfl, ?_⟩) (by assumption) ?_
    rotate_left
    ·intro w hSw; (try dsimp only at hSw); go_simp; (try with_reducible rfl)
    (try simp only [Act.put, zq1, zq2, zq3, zq4, zq5, zq6])
    refine wpAnyH_take (i := 5) (v := ?_) rfl (by kernel_rfl) (by kernel_rfl) (by kernel_rfl) (fun _ _ _ h => h) (Or.inl ⟨by first | kernel_rfl | rfl, ?_⟩) (by assumption) ?_
    rotate_left
    ·intro w hSw; (try dsimp only at hSw); go_simp; (try with_reducible rfl)
    (try simp only [Act.put, zq1, zq2, zq3, zq4, zq5, zq6])
    refine wpAnyH_take (i := 6) (v := ?_) rfl (by kernel_rfl) (by kernel_rfl) (by kernel_rfl) (fun _ _ _ h => h) (Or.inl ⟨by first | kernel_rfl | rfl, ?_⟩) (by assumption) ?_
    rotate_left
    ·intro w hSw; (try dsimp only at hSw); go_simp; (try with_reducible rfl)
    (try simp only [Act.put, zq1, zq2, zq3, zq4, zq5, zq6])
    refine wpAnyH_take (i := 7) (v := ?_) rfl (by kernel_rfl) (by kernel_rfl) (by kernel_rfl) (fun _ _ _ h => h) (Or.inl ⟨by first | kernel_rfl | rfl, ?_⟩) (by assumption) ?_
    rotate_left
    ·intro w hSw; (try dsimp only at hSw); go_simp; (try with_reducible rfl)
    (try simp only [Act.put, zq1, zq2, zq3, zq4, zq5, zq6])
    refine wpAnyH_take (i := 8) (v := ?_) rfl (by kernel_rfl) (by kernel_rfl) (by kernel_rfl) (fun _ _ _ h => h) (Or.inl ⟨by first | kernel_rfl | rfl, ?_⟩) (by assumption) ?_
    rotate_left
    ·intro w hSw; (try dsimp only at hSw); go_simp; (try with_reducible rfl)
    (try simp only [Act.put, zq1, zq2, zq3, zq4, zq5, zq6])
    refine wpAnyH_take (i := 9) (v := ?_) rfl (by kernel_rfl) (by kernel_rfl) (by kernel_rfl) (fun _ _ _ h => h) (Or.inl ⟨by first | kernel_rfl | rfl, ?_⟩) (by assumption) ?_
    rotate_left
    ·intro w hSw; (try dsimp only at hSw); go_simp; (try with_reducible rfl)
    (try simp only [Act.put, zq1, zq2, zq3, zq4, zq5, zq6])
    refine wpAnyH_ready (rs := [0, 10]) (by kernel_rfl) (by simp) (AllReadyH.cons rfl (fun K hK => ?_) (AllReadyH.cons rfl (fun K hK => ?_) AllReadyH.nil))
    go_simp
    refine hK.out _ _ (hp3) (fun hHeld => ?_)
    clear hK K
    (try simp only [Act.put, zq1, zq2, zq3, zq4, zq5, zq6])
    refine wpAnyH_ready (rs := [10]) (by kernel_rfl) (by simp) (AllReadyH.cons rfl (fun K hK => ?_) AllReadyH.nil)
    go_simp
    refine hK.out _ _ (cellAlloc _ hp3) (fun hHeld => ?_)
    clear hK K
    (try simp only [Act.put, zq1, zq2, zq3, zq4, zq5, zq6])
    rotate_left
    go_simp
    refine hK.out _ _ (cellAlloc _ hp3) (fun hHeld => ?_)
    clear hK K
    (try simp only [Act.put, zq1, zq2, zq3, zq4, zq5, zq6])
    have hva : (W.alloc (.cells #[.int .i64 y, .int .i64 y] 129)).cell? ⟨w5.heap.size, 0, none⟩ = some (.slice Ab o.length cb) := cellAlloc _ hv
    refine wpAnyH_ready (rs := [0]) (by kernel_rfl) (by simp) (AllReadyH.cons rfl (fun K hK => ?_) AllReadyH.nil)
    go_simp
    refine hK.out _ _ (cellAlloc _ hp3) (fun hHeld => ?_)
    clear hK K
    (try simp only [Act.put, zq1, zq2, zq3, zq4, zq5, zq6])
    clear hva
    all_goals
     refine wpAnyH_ready (rs := [11]) (by kernel_rfl) (by simp) (AllReadyH.cons rfl (fun K hK => ?_) AllReadyH.nil)
     rw [if_pos (by rfl)]
     refine wp_pushS (w0 := W.drew) rfl _ _ rfl HROW.out.drew rfl rfl hol (by have := lt_of_cell hv; simp; omega) ?_
     intro l2 A2 c2 w7 HL2 HO2 HG2 HAT2
     have HPU := Lh (BoxRow.push (lo := w5.heap.size) (hi := w5.heap.size + 1) (Nat.le_refl _) (by omega) (Nat.le_refl _) hv hf HROW.out (w0 := W.drew) (ob := .cells #[.int .i64 y, .int .i64 y] 129) (below_drewN (Below.refl _ _) 1) rfl HO2.out HG2.out HAT2.out)
     have hbx7 : w7.cell? ⟨w5.heap.size, 0, none⟩ = some (.slice Ab o.length cb) := by
      refine HG2.out.cell (cellAlloc _ hv) (fun e => ?_)
      have := HROW.out.lt _ e.symm
      simp at this; omega
     have hbf7 : w7.frozen? ⟨w5.heap.size, 0, none⟩ = false := by
      have := HPU.out.2.2.1
      obtain ⟨A8, c8, q1, q2, q3⟩ := this
      rwa [World.frozen?_setCell] at q2
     have hpx7 : w7.cell? ⟨w.heap.size, 3, none⟩ = some (.int .i64 u) := by
      refine HG2.out.cell (cellAlloc _ hp3) (fun e => ?_)
      have := HROW.out.lt _ e.symm
      simp at *; omega
     have hpx8 : (w7.setCell ⟨w5.heap.size, 0, none⟩ (.slice A2 l2.length c2)).cell? ⟨w.heap.size, 3, none⟩ = some (.int .i64 u) := by
      rw [World.cell?_setCell_far _ _ _ _ (by show w5.heap.size ≠ w.heap.size; omega)]; exact hpx7
     refine hK.out _ _ (hpx7) (fun hHeld => ?_)
     clear hK K
     (try simp only [Act.put, zq1, zq2, zq3, zq4, zq5, zq6])
     refine wpAnyH_ready (rs := [12]) (by kernel_rfl) (by simp) (AllReadyH.cons rfl (fun K hK => ?_) AllReadyH.nil)
     go_simp
     refine hK.out _ _ (hpx8) (fun hHeld => ?_)
     clear hK K
     (try simp only [Act.put, zq1, zq2, zq3, zq4, zq5, zq6])
     refine wpAnyH_done (by kernel_rfl) ?_ _
     gi_wp2
     obtain ⟨q1, q2, q3, q4⟩ := HPU.out
     have e : l2 = (pre ++ [x]).map fun v => (shlV u v, shlV u v) := by rw [HL2.out, HOE.out, List.map_append, ← hy]; rfl
     refine ⟨q1, q2, ?_, by simp; omega, HBW.out.trans q4⟩
     show BoxRow _ _ ((pre ++ [x]).map fun v => (shlV u v, shlV u v)) _
     rw [← e]; exact q3
   case done =>
    rintro D' xs W hD' rfl ⟨hbr, hlen1, hbW⟩ hKD
    obtain ⟨Ab, cb, hv, hf, hrow⟩ := hbr
    have hnr : ∀ y ∈ nums ro, 0 ≤ y ∧ y ≤ 63 := by
     intro y hy
     have h1 := (nums_mem ro y).1 hy
     have h2 := (Ro.out.2 y).1 h1
     obtain ⟨p, hp, g1, g2⟩ := (InS_iff _ _).1 h2.2.2
     have h3 := HI.out.2 p hp
     have ht6 : t ≤ 6 := by have := (bitsB_iff _ _ _).1 HBB.out; omega
     have h4 := pw_le6 (n := t) (by omega) ht6
     rw [HT.out] at h4
     omega
    have e : ((nums ro).map fun v => (shlV u v, shlV u v)) = (nums ro).map fun v => (v * pw u, v * pw u) := by
     refine List.map_congr_left fun y hy => ?_
     have h1 := hnr y hy
     have h2 := pw_le21 (n := u) (by omega) (by omega)
     have h3 := pw_pos u
     have h4 : y * pw u ≤ 63 * 2097152 := Int.mul_le_mul h1.2 h2 (by omega) (by omega)
     have h5 : 0 ≤ y * pw u := Int.mul_nonneg h1.1 (by omega)
     have : shlV u y = y * pw u := IntWalk.i64_in _ (by show _ ∧ _; unfold pw at h4 h5; omega)
     rw [this]
    rw [e] at hv hrow
    obtain ⟨lu, hlu⟩ : ∃ l, ((nums ro).map fun v => (v * pw u, v * pw u)) = l := ⟨_, rfl⟩
    rw [hlu] at hv hrow
    have hwu : SpW lu := by
     intro p hp
     rw [← hlu] at hp
     obtain ⟨y, hy, rfl⟩ := List.mem_map.1 hp
     have h1 := hnr y hy
     have h2 := pw_le21 (n := u) (by omega) (by omega)
     have h3 := pw_pos u
     have h4 : y * pw u ≤ 63 * 2097152 := Int.mul_le_mul h1.2 h2 (by omega) (by omega)
     have h5 : 0 ≤ y * pw u := Int.mul_nonneg h1.1 (by omega)
     simp only
     omega
    have hll : lu.length < 137438953472 := by rw [← hlu, List.length_map]; omega
    have hDW : D' < W.heap.size := (Array.getElem?_eq_some_iff.1 hKD).1
    obtain ⟨s, Rs⟩ := rep_norm lu
    have HK7 := Lh ((HK.out.step hbW).add (Below.refl _ _) (G := fun W' => Lst Ab lu W' ∧ Below w5.heap.size w5 W' ∧ W'.heap[D']? = some (.deferred (some []))) (fun W' hW' => ⟨⟨hrow.spans.below hW', hwu, hll⟩, hbW.trans (hW'.mono hbW.size), (hW'.block D' hDW).trans hKD⟩))
    have HS := Lh hlu
    have hlt := lt_of_cell hv
    clear e hlu hKD hbW hrow hDW
    go_wp2_with fail
    refine (Norm_st HK7 (fun _ h => h.1.1) _ Rs).mono ?_
    rintro e w8 ⟨A8, c8, rfl, HK8⟩
    go_wp2_with fail
    have hn8 := HK8.out.now
    refine leaveM_mark (.slice A8 s.length c8) hn8.2.1.2.2 (fun w' => by simp [results, Tryz.f230, go_sem]) ?_
    have HIp : Hid (ImInv (pw d) (pw t) m o) := by unfold Hid; rw [HD.out, HT.out]; exact HI.out
    obtain rfl := Rep.unique (HIp.out.repU HBB.out RM.out Ro.out (by rw [HS.out]; exact Rs.out)) hr.out (fun _ => Iff.rfl)
    exact ⟨_, _, rfl, Lh ((HK.out.mark hn8.2.1.2.1 hn8.1 (by omega) hn8.2.1.2.2).weaken fun W h => ⟨h.1, h.2.2.2.2.2.2.2⟩)⟩
   case stop =>
    rintro D cd pre W hD hpre hF
    exact hF.elim
end
end
section
open Go.RowKit
theorem outS_iff {t : TermL} (hn : NumsOk t) {gs : List (List Sp)} {r r3 : List Sp} (hr : Rep r (InnS t gs)) (hok : InRange t gs) (h3 : Rep r3 (ImgS t.drop t.take t.up r)) (y : Int) :
  OutS t gs y ↔ (-1073741824 ≤ y ∧ y ≤ 1073741824 ∧ Mem r3 (y - t.base)) := by
 rw [h3.mem]
 constructor
 ·intro h
  have hb := outS_bd hn h
  obtain ⟨w, hw, rfl⟩ := h
  refine ⟨hb.1, hb.2, bitsOk_b hn.2.2.1, innerT t w, (hr.mem _).2 ⟨w, hw, rfl⟩, ?_⟩
  have := hok _ ⟨w, hw, rfl⟩
  exact ⟨by omega, by omega, by omega⟩
 ·rintro ⟨_, _, _, x, hx, _, _, hv⟩
  obtain ⟨w, hw, rfl⟩ := (hr.mem x).1 hx
  exact ⟨w, hw, by omega⟩
section
variable {w0 w : World} {F : World → Prop}
theorem tImage_st (hK : Hid (St w0 w F)) {A : Option Addr} {l : List PartL} (hp : ∀ W, F W → PartsAt A l W) (b d t u s : Int) (c : Nat) {B : Option Addr} {O : List (Item Sp)} (hb : ∀ W, F W → LLx B O W) (cb : Nat)
  (h4 : O.length ≤ 4) (hn : Hid (NumsOk ⟨b, d, t, u, s, l⟩)) (hpo : Hid (∀ p ∈ l, PartOk O.length p)) (r2 : List Sp) (hr2 : Hid (Rep r2 (OutS ⟨b, d, t, u, s, l⟩ (bodies O)))) (ok : Bool) (hok : Hid (pB (InRange ⟨b, d, t, u, s, l⟩ (bodies O)) = ok)) (hst : StageP l) :
  Calls Tryz.prog 211 #[.agg #[.int .i64 b, .int .i64 d, .int .i64 t, .int .i64 u, .int .i64 s, .slice A l.length c], .slice B O.length cb] w (fun e w' => if ok = true then RetLB2 w0 r2 true F e w' else RetLB2 w0 [] false F e w') := by
 have HP := Lh hp
 have HB := Lh hb
 have HK := St.box hK [.int .i64 b, .int .i64 d, .int .i64 t, .int .i64 u, .int .i64 s, .slice A l.length c] 68
 obtain ⟨q0, q1, q2, q3, q4, q5⟩ := HK.out.now.1.c6
 obtain ⟨r, hr⟩ := rep_inn hn.out (bodies O)
 clear hp hb
 go_enter Tryz.func211, Tryz.ntmps211
 go_wp2_with fail
 refine (inner_st HK (fun _ h => HP.out _ h.2) b d t u s c (fun _ h => HB.out _ h.2) cb h4 hn hpo r hr ok hok hst).mono ?_
 rintro e w1 ⟨A1, c1, rfl, HK1⟩
 clear q0 q1 q2 q3 q4 q5 HK
 rcases ok with _ | _
 ·go_wp2_with fail
  go_ret2
  exact ⟨none, 0, rfl, Lh (HK1.out.weaken fun W h => ⟨lst_nil W, h.2.2⟩)⟩
 have HRG : Hid (InRange ⟨b, d, t, u, s, l⟩ (bodies O)) := Lh (pB_iff.1 hok.out)
 by_cases hre : r = []
 ·subst hre
  have h0 : Rep [] (OutS ⟨b, d, t, u, s, l⟩ (bodies O)) := ⟨by simp [Plain, PlainF], fun y => by
   simp only [InS, false_iff]
   rintro ⟨w, hw, _⟩
   exact rep_nil hr.out _ ⟨w, hw, rfl⟩⟩
  obtain rfl := Rep.unique hr2.out h0 (fun _ => Iff.rfl)
  go_wp2_with fail
  go_ret2
  exact ⟨none, 0, rfl, Lh (HK1.out.weaken fun W h => ⟨lst_nil W, h.2.2⟩)⟩
 have hrl : ((r.length : Int) == 0) = false := by
  rw [beq_eq_false_iff_ne]
  intro h
  exact hre (List.eq_nil_of_length_eq_zero (by omega))
 obtain ⟨r3, HR3⟩ := rep_img d t u r
 have HR4 : Hid (Rep r2 (fun y => -1073741824 ≤ y ∧ y ≤ 1073741824 ∧ Mem r3 (y - b))) := Lh (hr2.out.congr fun y => outS_iff hn.out hr.out HRG.out HR3.out y)
 clear hre
 go_wp2_with fail
 have HK2 := St.hdrewN HK1 1
 go_region_held3 (fun W => W.cell? ⟨w.heap.size, 0, none⟩ = some (.int .i64 b) ∧ W.cell? ⟨w.heap.size, 1, none⟩ = some (.int .i64 d) ∧ W.cell? ⟨w.heap.size, 2, none⟩ = some (.int .i64 t) ∧ W.cell? ⟨w.heap.size, 3, none⟩ = some (.int .i64 u) ∧ W.cell? ⟨w.heap.size, 4, none⟩ = some (.int .i64 s) ∧ W.cell? ⟨w.heap.size, 5, none⟩ = some (.slice A l.length c))
  (first | exact HK5.out.now.2.2.2.1.c6 | exact HK4.out.now.2.2.1.c6 | exact HK3.out.now.2.1.c6 | exact HK2.out.now.2.1.c6 | go_keep)
  ((first
   | (go_at_call 185; refine (retV_gives HK2 (outer_any b d t u s A l.length c _)).mono ?_; rintro e3 w3 ⟨rfl, HK3⟩)
   | (go_at_call 230; refine (Image_st HK3 (fun _ h => h.1) c1 0 d t u HR3).mono ?_; rintro e4 w4 ⟨A4, c4, rfl, HK4⟩)
   | (go_at_call 229; refine (Move_st HK4 (fun _ h => h.1) c4 HR4).mono ?_; rintro e5 w5 ⟨A5, c5, rfl, HK5⟩)))
 go_wp2_with fail
 go_ret2
 exact ⟨A5, c5, rfl, Lh (HK5.out.weaken fun W h => ⟨h.1, h.2.2.2.2⟩)⟩
theorem Fits_st (hK : Hid (St w0 w F)) {A : Option Addr} {l : List PartL} (hp : ∀ W, F W → PartsAt A l W) (b d t u s : Int) (c : Nat) (i o : Int) {B : Option Addr} {O : List (Item Sp)} (hb : ∀ W, F W → LLx B O W) (cb : Nat)
  (h4 : O.length ≤ 4) (v : Bool) (hv : Hid (pB (FitsP i o (bodies O) ⟨b, d, t, u, s, l⟩) = v)) (hst : StageP l) :
  Calls Tryz.prog 190 #[.agg #[.int .i64 b, .int .i64 d, .int .i64 t, .int .i64 u, .int .i64 s, .slice A l.length c], .int .i64 i, .int .i64 o, .slice B O.length cb] w (RetV w0 (.bool v) F) := by
 have HP := Lh hp
 have HB := Lh hb
 have HK := St.box hK [.int .i64 b, .int .i64 d, .int .i64 t, .int .i64 u, .int .i64 s, .slice A l.length c] 68
 obtain ⟨q0, q1, q2, q3, q4, q5⟩ := HK.out.now.1.c6
 have hbl : (bodies O).length = O.length := bodies_length O
 clear hp hb
 by_cases a1 : TermRt i o O.length ⟨b, d, t, u, s, l⟩
 case neg =>
  obtain rfl := pB_f hv (fun h => a1 (by have := h.1; rwa [hbl] at this))
  have H1 := Lh (pB_false a1)
  clear a1 hbl
  go_enter Tryz.func190, Tryz.ntmps190
  go_wp2_with fail
  refine (tRightG_st HK (fun _ h => HP.out _ h.2) b d t u s c i o O.length false H1).mono ?_
  rintro e w1 ⟨rfl, HK1⟩
  go_wp2_with fail
  go_ret
  exact ⟨rfl, Lh (HK1.out.weaken fun _ h => h.2)⟩
 have H1 := Lh (pB_true a1)
 have HN : Hid (NumsOk ⟨b, d, t, u, s, l⟩) := Lh a1.2.2.1
 have HPO : Hid (∀ p ∈ l, PartOk O.length p) := Lh fun p hp => (a1.2.2.2.1 p hp).1
 have HF : Hid (pB (InRange ⟨b, d, t, u, s, l⟩ (bodies O) ∧ ∀ y, OutS ⟨b, d, t, u, s, l⟩ (bodies O) y → InD o y) = v) := by
  unfold Hid
  rw [← hv.out]
  exact (pB_congr (fits_iff (by rw [hbl]; exact a1))).symm
 obtain ⟨ok, hok⟩ : ∃ ok, Hid (pB (InRange ⟨b, d, t, u, s, l⟩ (bodies O)) = ok) := ⟨_, rfl⟩
 obtain ⟨r2, hr2⟩ : ∃ r, Hid (Rep r (OutS ⟨b, d, t, u, s, l⟩ (bodies O))) := rep_all _ fun y h => outS_bd HN.out h
 clear a1 hbl
 go_enter Tryz.func190, Tryz.ntmps190
 go_wp2_with fail
 refine (tRightG_st HK (fun _ h => HP.out _ h.2) b d t u s c i o O.length true H1).mono ?_
 rintro e w1 ⟨rfl, HK1⟩
 clear q0 q1 q2 q3 q4 q5
 obtain ⟨q0, q1, q2, q3, q4, q5⟩ := HK1.out.now.1.c6
 go_wp2_with fail
 refine (tImage_st HK1 (fun _ h => HP.out _ h.2) b d t u s c (fun _ h => HB.out _ h.2) cb h4 HN HPO r2 hr2 ok hok hst).mono ?_
 intro e w2 hret
 rcases ok with _ | _
 ·obtain rfl := pB_f HF (fun h => by have := pB_true h.1; rw [hok.out] at this; cases this)
  obtain ⟨A2, c2, rfl, HK2⟩ := hret
  go_wp2_with fail
  go_ret
  exact ⟨rfl, Lh (HK2.out.weaken fun W h => h.2.2)⟩
 ·obtain ⟨A2, c2, rfl, HK2⟩ := hret
  have HW : Hid (pB (∀ x, Mem r2 x → Mem (domL o) x) = v) := by
   unfold Hid
   rw [← HF.out]
   refine pB_congr ⟨fun h => ⟨pB_iff.1 hok.out, fun y hy => (inD_mem o y).1 (h y ((hr2.out.mem y).2 hy))⟩, fun h x hx => (inD_mem o x).2 (h.2 x ((hr2.out.mem x).1 hx))⟩
  go_wp2_with fail
  refine (DomX_st HK2 o).mono ?_
  rintro e w3 ⟨A3, c3, rfl, HK3⟩
  go_wp2_with fail
  refine (Within_p HK3 (fun _ h => h.2.1) (fun _ h => h.1) c2 c3 v HW).mono ?_
  rintro e w4 ⟨rfl, HK4⟩
  go_wp2_with fail
  go_ret
  exact ⟨rfl, Lh (HK4.out.weaken fun W h => h.2.2.2)⟩
end
end
section
open Go.RowKit
section
variable {w0 w : World} {F : World → Prop}
theorem state_st (hK : Hid (St w0 w F)) (i o n s : Int) (ra fa : Option Addr) (rl rc fl fc : Nat) (x : Int) (v : Bool) (hv : Hid (pB (StateOk n x) = v)) :
  Calls Tryz.prog 151 #[.agg #[.int .i64 i, .int .i64 o, .int .i64 n, .int .i64 s, .slice ra rl rc, .slice fa fl fc], .int .i64 x] w (RetV w0 (.bool v) F) := by
 have HK := St.box hK [.int .i64 i, .int .i64 o, .int .i64 n, .int .i64 s, .slice ra rl rc, .slice fa fl fc] 26
 by_cases h1 : 0 ≤ x
 case neg =>
  obtain rfl := pB_f hv (fun h => h1 h.1)
  go_enter Tryz.func151, Tryz.ntmps151
  go_wp2_with fail
  go_ret
  exact ⟨rfl, Lh (HK.out.weaken fun _ h => h.2)⟩
 by_cases h2 : x < n
 case neg =>
  obtain rfl := pB_f hv (fun h => h2 h.2)
  go_enter Tryz.func151, Tryz.ntmps151
  go_wp2_with fail
  go_ret
  exact ⟨rfl, Lh (HK.out.weaken fun _ h => h.2)⟩
 obtain rfl := pB_t hv ⟨h1, h2⟩
 go_enter Tryz.func151, Tryz.ntmps151
 go_wp2_with fail
 go_ret
 exact ⟨rfl, Lh (HK.out.weaken fun _ h => h.2)⟩
theorem dom_pos {s : Int} (h : SortOk s) : decide (0 < (domL s).length) = true := by
 rcases h with rfl | rfl <;> rfl
theorem dom_zero {s : Int} (h : ¬ SortOk s) : decide (0 < (domL s).length) = false := by
 rw [(domL_nil s).2 h]; rfl
def HeadP (i o n s : Int) (rl fl : Nat) : Prop := SortOk i ∧ SortOk o ∧ 1 ≤ n ∧ n ≤ 1024 ∧ StateOk n s ∧ rl ≤ 4096 ∧ fl ≤ 4096
theorem head_st (hK : Hid (St w0 w F)) (i o n s : Int) (ra fa : Option Addr) (rl rc fl fc : Nat) (v : Bool) (hv : Hid (pB (HeadP i o n s rl fl) = v)) :
  Calls Tryz.prog 149 #[.agg #[.int .i64 i, .int .i64 o, .int .i64 n, .int .i64 s, .slice ra rl rc, .slice fa fl fc]] w (RetV w0 (.bool v) F) := by
 have HK := St.box hK [.int .i64 i, .int .i64 o, .int .i64 n, .int .i64 s, .slice ra rl rc, .slice fa fl fc] 26
 by_cases s1 : SortOk i
 case neg =>
  have h1 := dom_zero s1
  obtain rfl := pB_f hv (fun h => s1 h.1)
  clear s1
  go_enter Tryz.func149, Tryz.ntmps149
  go_wp2_with fail
  refine (DomX_st HK i).mono ?_
  rintro e w1 ⟨A1, c1, rfl, HK1⟩
  go_wp2_with fail
  go_ret
  exact ⟨rfl, Lh (HK1.out.weaken fun _ h => h.2.2)⟩
 have h1 := dom_pos s1
 by_cases s2 : SortOk o
 case neg =>
  have h2 := dom_zero s2
  obtain rfl := pB_f hv (fun h => s2 h.2.1)
  clear s1 s2
  go_enter Tryz.func149, Tryz.ntmps149
  go_wp2_with fail
  refine (DomX_st HK i).mono ?_
  rintro e w1 ⟨A1, c1, rfl, HK1⟩
  obtain ⟨q0, q1, q2, q3, q4, q5⟩ := HK1.out.now.2.1.c6
  go_wp2_with fail
  refine (DomX_st HK1 o).mono ?_
  rintro e w2 ⟨A2, c2, rfl, HK2⟩
  go_wp2_with fail
  go_ret
  exact ⟨rfl, Lh (HK2.out.weaken fun _ h => h.2.2.2)⟩
 have h2 := dom_pos s2
 have HS := Lh (And.intro s1 s2)
 clear s1 s2
 go_enter Tryz.func149, Tryz.ntmps149
 go_wp2_with fail
 refine (DomX_st HK i).mono ?_
 rintro e w1 ⟨A1, c1, rfl, HK1⟩
 obtain ⟨q0, q1, q2, q3, q4, q5⟩ := HK1.out.now.2.1.c6
 go_wp2_with fail
 refine (DomX_st HK1 o).mono ?_
 rintro e w2 ⟨A2, c2, rfl, HK2⟩
 have HK2 : Hid (St w0 w2 (fun W => BoxC w.heap.size [.int .i64 i, .int .i64 o, .int .i64 n, .int .i64 s, .slice ra rl rc, .slice fa fl fc] W ∧ F W)) := Lh (HK2.out.weaken fun _ h => h.2.2)
 clear q0 q1 q2 q3 q4 q5 HK HK1
 obtain ⟨q0, q1, q2, q3, q4, q5⟩ := HK2.out.now.1.c6
 by_cases n1 : 1 ≤ n
 case neg =>
  obtain rfl := pB_f hv (fun h => n1 h.2.2.1)
  go_wp2_with fail
  go_ret
  exact ⟨rfl, Lh (HK2.out.weaken fun _ h => h.2)⟩
 by_cases n2 : n ≤ 1024
 case neg =>
  obtain rfl := pB_f hv (fun h => n2 h.2.2.2.1)
  go_wp2_with fail
  go_ret
  exact ⟨rfl, Lh (HK2.out.weaken fun _ h => h.2)⟩
 by_cases st : StateOk n s
 case neg =>
  obtain rfl := pB_f hv (fun h => st h.2.2.2.2.1)
  have H1 := Lh (pB_false st)
  clear st
  go_wp2_with fail
  refine (state_st HK2 i o n s ra fa rl rc fl fc s false H1).mono ?_
  rintro e w3 ⟨rfl, HK3⟩
  go_wp2_with fail
  go_ret
  exact ⟨rfl, Lh (HK3.out.weaken fun _ h => h.2)⟩
 have H1 := Lh (pB_true st)
 have HST := Lh st
 clear st
 go_wp2_with fail
 refine (state_st HK2 i o n s ra fa rl rc fl fc s true H1).mono ?_
 rintro e w3 ⟨rfl, HK3⟩
 clear q0 q1 q2 q3 q4 q5
 obtain ⟨q0, q1, q2, q3, q4, q5⟩ := HK3.out.now.1.c6
 by_cases r1 : (rl : Int) ≤ 4096
 case neg =>
  obtain rfl := pB_f hv (fun h => r1 (by have := h.2.2.2.2.2.1; omega))
  go_wp2_with fail
  go_ret
  exact ⟨rfl, Lh (HK3.out.weaken fun _ h => h.2)⟩
 by_cases f1 : (fl : Int) ≤ 4096
 case neg =>
  obtain rfl := pB_f hv (fun h => f1 (by have := h.2.2.2.2.2.2; omega))
  have f1' : decide ((fl : Int) ≤ 4096) = false := by simpa using f1
  go_wp2_with fail
  go_ret
  exact ⟨rfl, Lh (HK3.out.weaken fun _ h => h.2)⟩
 obtain rfl := pB_t hv ⟨HS.out.1, HS.out.2, n1, n2, HST.out, by omega, by omega⟩
 go_wp2_with fail
 go_ret
 exact ⟨rfl, Lh (HK3.out.weaken fun _ h => h.2)⟩
def WritesTo (i o : Int) (gs : List (List Sp)) (l : List TermI) (k : Nat) : Prop := ∀ t ∈ l.take k, FitsP i o gs t.L
theorem writes_st (hK : Hid (St w0 w F)) (i o n s : Int) (ra fa : Option Addr) (rl rc fl fc : Nat) {TA : Option Addr} {T : List TermI} (ht : ∀ W, F W → TermsAt TA T W) (tc : Nat) {B : Option Addr} {O : List (Item Sp)} (hb : ∀ W, F W → LLx B O W) (cb : Nat)
  (h4 : O.length ≤ 4) (v : Bool) (hv : Hid (pB (WritesOk i o (bodies O) (T.map TermI.L)) = v)) (hst : ∀ t ∈ T, StageP t.ps) :
  Calls Tryz.prog 153 #[.agg #[.int .i64 i, .int .i64 o, .int .i64 n, .int .i64 s, .slice ra rl rc, .slice fa fl fc], .slice TA T.length tc, .slice B O.length cb] w (RetV w0 (.bool v) F) := by
 have HT := Lh ht
 have HB := Lh hb
 have HST := Lh hst
 have hln := (ht _ hK.out.now).ln
 have HK := St.box hK [.int .i64 i, .int .i64 o, .int .i64 n, .int .i64 s, .slice ra rl rc, .slice fa fl fc] 26
 clear ht hb hst
 by_cases h64 : (T.length : Int) ≤ 64
 case neg =>
  obtain rfl := pB_f hv (fun h => h64 (by have := h.1; rw [List.length_map] at this; omega))
  go_enter Tryz.func153, Tryz.ntmps153
  go_wp2_with fail
  go_ret
  exact ⟨rfl, Lh (HK.out.weaken fun _ h => h.2)⟩
 go_enter Tryz.func153, Tryz.ntmps153
 go_wp2_with fail
 go_loopw [14] (fun iv wr => ∃ k : Nat, k ≤ T.length ∧ iv = .int .i64 k ∧ Hid (WritesTo i o (bodies O) T k) ∧ Hid (St w0 wr (fun W => BoxC w.heap.size [.int .i64 i, .int .i64 o, .int .i64 n, .int .i64 s, .slice ra rl rc, .slice fa fl fc] W ∧ F W))) (fun iv _ => T.length - (intOf iv).toNat)
 case atStart => exact ⟨0, Nat.zero_le _, rfl, Lh (fun g hg => by simp at hg), HK⟩
 case round =>
 clear HK
 obtain ⟨k, hk, rfl, HR, HK⟩ := hrel
 by_cases hlt : k < T.length
 ·obtain ⟨tb, off, t, rfl, hx, hw, hd0, hd1, hd2, hd3, hd4, hd5⟩ := (HT.out _ HK.out.now.2).at_ hlt
  have HX := Lh hx
  have HKt := Lh (HK.out.add (Below.refl _ _) (G := PartsAt t.pa t.ps) (fun W hW => hw.2.below hW))
  have HKp := St.box HKt (termC t) 68
  have hsp := HST.out t (List.mem_of_getElem? hx)
  have HBAD : ¬ FitsP i o (bodies O) t.L → v = false := fun h => pB_f hv (fun g => h (g.2 _ (List.mem_map.2 ⟨t, List.mem_of_getElem? HX.out, rfl⟩)))
  obtain ⟨b, d, tt, u, sm, pa, pc, ps⟩ := t
  simp only [termC] at hd0 hd1 hd2 hd3 hd4 hd5 HKp HKt hsp
  obtain ⟨q0, q1, q2, q3, q4, q5⟩ := HKp.out.now.2.2.1.c6
  have HSP := Lh hsp
  clear hx hw hsp
  by_cases a1 : FitsP i o (bodies O) ⟨b, d, tt, u, sm, ps⟩
  ·have H1 := Lh (pB_true a1)
   have HN : Hid (WritesTo i o (bodies O) T (k + 1)) := Lh fun q hq => by
    rw [take_snoc? HX.out] at hq
    rcases List.mem_append.1 hq with hq | hq
    ·exact HR.out q hq
    ·simp at hq; subst hq; exact a1
   clear a1 HBAD
   go_wp2_with fail
   refine (Fits_st HKp (fun _ h => h.2.1) b d tt u sm pc i o (fun _ h => HB.out _ h.2.2.2) cb h4 true H1 HSP.out).mono ?_
   rintro e w3 ⟨rfl, HK3⟩
   go_wp2_with fail
   go_roundw
   case rel => exact ⟨k + 1, by omega, by go_num, HN, Lh (HK3.out.weaken fun _ h => h.2.2)⟩
   case measure => simp [intOf]; omega
  ·have H1 := Lh (pB_false a1)
   obtain rfl := HBAD a1
   clear a1 HBAD
   go_wp2_with fail
   refine (Fits_st HKp (fun _ h => h.2.1) b d tt u sm pc i o (fun _ h => HB.out _ h.2.2.2) cb h4 false H1 HSP.out).mono ?_
   rintro e w3 ⟨rfl, HK3⟩
   go_wp2_with fail
   go_ret
   exact ⟨rfl, Lh (HK3.out.weaken fun _ h => h.2.2.2)⟩
 ·obtain rfl : k = T.length := by omega
  have hd : decide (T.length < T.length) = false := by simp
  obtain rfl := pB_t hv ⟨by rw [List.length_map]; omega, fun t ht => by
   obtain ⟨t', ht', rfl⟩ := List.mem_map.1 ht
   exact HR.out t' (by rwa [List.take_length])⟩
  go_wp2_with fail
  go_ret
  exact ⟨rfl, Lh (HK.out.weaken fun _ h => h.2)⟩
end
end
section
open Go.RowKit
def OnTo (ls : List Int) (gs : List (List Sp)) (w : List Int) (k : Nat) : Prop := ∀ (j : Nat) g c, j < k → gs[j]? = some g → w[j]? = some c → hasB g (ls.getD c.toNat 0) = true
def OnG (ls : List Int) (gs : List (List Sp)) (w : List Int) : Prop := ∀ (j : Nat) g c, gs[j]? = some g → w[j]? = some c → hasB g (ls.getD c.toNat 0) = true
def ClsOk (ls : List Int) (w : List Int) : Prop := w.length ≤ 4 ∧ ∀ c ∈ w, 0 ≤ c ∧ c < ls.length
def wordC (w : List Int) : List Value := [.int .i64 w.length, .int .i64 (w.getD 0 0), .int .i64 (w.getD 1 0), .int .i64 (w.getD 2 0), .int .i64 (w.getD 3 0)]
theorem BoxC.word {b : Nat} {w : List Int} {W : World} (h : BoxC b (wordC w) W) {k : Nat} {c : Int} (hw : w.length ≤ 4) (hc : w[k]? = some c) : W.cell? ⟨b, 1 + k, none⟩ = some (.int .i64 c) := by
 have hk := (List.getElem?_eq_some_iff.1 hc).1
 have : k = 0 ∨ k = 1 ∨ k = 2 ∨ k = 3 := by omega
 have hg : w.getD k 0 = c := by rw [List.getD_eq_getElem?_getD, hc]; rfl
 rcases this with rfl | rfl | rfl | rfl
 ·exact h 1 _ (by simp only [wordC]; rw [← hg]; rfl)
 ·exact h 2 _ (by simp only [wordC]; rw [← hg]; rfl)
 ·exact h 3 _ (by simp only [wordC]; rw [← hg]; rfl)
 ·exact h 4 _ (by simp only [wordC]; rw [← hg]; rfl)
theorem getD_of {l : List Int} {k : Nat} {x : Int} (h : l[k]? = some x) : l.getD k 0 = x := by rw [List.getD_eq_getElem?_getD, h]; rfl
section
variable {w0 w : World} {F : World → Prop}
theorem has_st (hK : Hid (St w0 w F)) (mb : Nat) {la : Option Addr} {ls : List Int} {lc : Nat} (hm : ∀ W, F W → W.cell? ⟨mb, 6, none⟩ = some (.slice la ls.length lc) ∧ IntsAt la ls W) {A : Option Addr} {O : List (Item Sp)} (ha : ∀ W, F W → LLx A O W) (c : Nat) (wd : List Int) (c0 c1 c2 c3 : Int) (hwc : Hid (wordC wd = [.int .i64 wd.length, .int .i64 c0, .int .i64 c1, .int .i64 c2, .int .i64 c3])) (hw : Hid (ClsOk ls wd)) (v : Bool) (hv : Hid (pB (OnG ls (bodies O) wd) = v)) :
  Calls Tryz.prog 125 #[.pointer (some ⟨mb, 0, none⟩), .slice A O.length c, .agg #[.int .i64 wd.length, .int .i64 c0, .int .i64 c1, .int .i64 c2, .int .i64 c3]] w (RetV w0 (.bool v) F) := by
 have HM := Lh hm
 have HA := Lh ha
 have hln := (ha _ hK.out.now).2
 have HK := St.box hK [.int .i64 wd.length, .int .i64 c0, .int .i64 c1, .int .i64 c2, .int .i64 c3] 148
 obtain ⟨m, hm⟩ : ∃ m : Nat, min O.length wd.length = m := ⟨_, rfl⟩
 have hmm : min (O.length : Int) (wd.length : Int) = (m : Int) := by omega
 have HMN := Lh hm
 have HMM := Lh hmm
 have hw4 := hw.out.1
 have q0 := HK.out.now.1 0 _ rfl
 have HK : Hid (St w0 (w.alloc (.cells [.int .i64 wd.length, .int .i64 c0, .int .i64 c1, .int .i64 c2, .int .i64 c3].toArray 148)) (fun W => BoxC w.heap.size (wordC wd) W ∧ F W)) := by rw [hwc.out]; exact HK
 clear hm ha
 go_enter Tryz.func125, Tryz.ntmps125
 go_wp2_with fail
 clear q0 hmm
 go_loopw [13] (fun iv wr => ∃ k : Nat, k ≤ m ∧ iv = .int .i64 k ∧ Hid (OnTo ls (bodies O) wd k) ∧ Hid (St w0 wr (fun W => BoxC w.heap.size (wordC wd) W ∧ F W))) (fun iv _ => m - (intOf iv).toNat)
 case atStart => exact ⟨0, Nat.zero_le _, rfl, Lh (fun j s t hj => by omega), HK⟩
 case round =>
 clear HK
 obtain ⟨k, hk, rfl, HR, HK⟩ := hrel
 by_cases hlt : k < m
 ·obtain ⟨gb, off, ba, bc, b, rfl, _, hb, hc, hl⟩ := (HA.out _ HK.out.now.2).at_ (k := k) (by have := HMN.out; omega)
  obtain ⟨cc, hcw⟩ : ∃ cc, wd[k]? = some cc := ⟨_, List.getElem?_eq_getElem (by have := HMN.out; omega)⟩
  obtain ⟨hc0, hc1⟩ := hw.out.2 cc (List.mem_of_getElem? hcw)
  obtain ⟨n, rfl⟩ := Int.eq_ofNat_of_zero_le hc0
  have hcb := HK.out.now.1.word hw4 hcw
  obtain ⟨hm6, hmi⟩ := HM.out _ HK.out.now.2
  obtain ⟨lb, lo, x, rfl, hx, hxw, hcx⟩ := hmi.at_ (j := n) (by omega)
  have HX := Lh (And.intro hb (And.intro hcw hx))
  have HKi := Lh (HK.out.add (Below.refl _ _) (G := fun W => (W.cell? ⟨gb, off + k, none⟩ = some (.slice ba b.length bc) ∧ W.cell? ⟨mb, 6, none⟩ = some (.slice (some ⟨lb, lo, none⟩) ls.length lc) ∧ W.cell? ⟨w.heap.size, 1 + k, none⟩ = some (.int .i64 (n : Int)) ∧ W.cell? ⟨lb, lo + n, none⟩ = some (.int .i64 x)) ∧ Lst ba b W)
   (fun W hW => ⟨⟨(hW.cell (p := ⟨gb, off + k, none⟩) (lt_of_cell hc)).trans hc, (hW.cell (p := ⟨mb, 6, none⟩) (lt_of_cell hm6)).trans hm6, (hW.cell (p := ⟨w.heap.size, 1 + k, none⟩) (lt_of_cell hcb)).trans hcb, (hW.cell (p := ⟨lb, lo + n, none⟩) (lt_of_cell hcx)).trans hcx⟩, hl.below hW⟩))
  have hk1 : (k : Int) < O.length := by have := HMN.out; omega
  have hk4 : (k : Int) < 4 := by have := HMN.out; omega
  have hk0 : (0 : Int) ≤ (k : Int) := by omega
  have hn1 : (n : Int) < (ls.length : Int) := by omega
  have hkm : (k : Int) < (m : Int) := by omega
  obtain ⟨vm, hvm⟩ : ∃ vm, hasB b x = vm := ⟨_, rfl⟩
  have HVM := Lh hvm
  have HLT := Lh hlt
  clear hb hl hc hlt hcw hc0 hc1 hcb hm6 hmi hx hxw hcx hvm
  go_wp2_with fail
  have HK1 := St.hdrewN HKi 1
  go_region_held3 (fun W => W.cell? ⟨gb, off + k, none⟩ = some (.slice ba b.length bc) ∧ W.cell? ⟨mb, 6, none⟩ = some (.slice (some ⟨lb, lo, none⟩) ls.length lc) ∧ W.cell? ⟨w.heap.size, 1 + k, none⟩ = some (.int .i64 (n : Int)) ∧ W.cell? ⟨lb, lo + n, none⟩ = some (.int .i64 x))
   (first | exact HK2.out.now.1.1 | exact HK1.out.now.1.1 | go_keep)
   ((go_at_call 119; refine (Has_st HK1 (fun _ h => h.1.2) bc x HVM.out).mono ?_; rintro e5 w5 ⟨rfl, HK2⟩))
  rcases vm with _ | _
  ·obtain rfl := pB_f hv (fun h => by
    have := h k b n HX.out.1 HX.out.2.1
    rw [Int.toNat_natCast, getD_of HX.out.2.2, HVM.out] at this; cases this)
   go_wp2_with fail
   go_ret
   exact ⟨rfl, Lh (HK2.out.weaken fun _ h => h.2.2)⟩
  ·have HN : Hid (OnTo ls (bodies O) wd (k + 1)) := Lh fun j s t hj hs ht => by
    by_cases e : j = k
    ·subst e
     rw [HX.out.1] at hs; rw [HX.out.2.1] at ht
     injection hs with hs; injection ht with ht
     subst hs; subst ht
     rw [Int.toNat_natCast, getD_of HX.out.2.2, HVM.out]
    ·exact HR.out j s t (by omega) hs ht
   go_wp2_with fail
   go_roundw
   case rel => exact ⟨k + 1, by have := HLT.out; omega, by go_num, HN, Lh (HK2.out.weaken fun _ h => h.2)⟩
   case measure => have := HLT.out; simp [intOf]; omega
 ·obtain rfl : k = m := by omega
  have hd : decide (k < k) = false := by simp
  have hmm := HMM.out
  obtain rfl := pB_t hv (fun j s t hs ht => HR.out j s t (by
   have h1 := (List.getElem?_eq_some_iff.1 hs).1
   have h2 := (List.getElem?_eq_some_iff.1 ht).1
   rw [bodies_length] at h1
   have := HMN.out; omega) hs ht)
  go_wp2_with fail
  go_ret
  exact ⟨rfl, Lh (HK.out.weaken fun _ h => h.2)⟩
end
end
section
open Go.RowKit
structure MkB where
  d : DescI
  n : Nat
  mb : Nat
  nb : Nat
  ab : Nat
  eb : Nat
  la : Option Addr
  lc : Nat
  ls : List Int
  ra : Option Addr
  rc : Nat
  rows : List (Item Int)
  fa : Option Addr
  fc : Nat
  fins : List (Item Int)
  cls : List Int
  av : Nat → Prop
structure MkV where
  pa : Option Addr
  pc : Nat
  ps : List Place
  aa : Option Addr
  ac : Nat
  acs : List (Nat × ActI)
  ea : Option Addr
  ec : Nat
  es : List (Nat × OutI)
  na : Option Addr
  nc : Nat
  ns : List NodeI
def mkHead (B : MkB) (V : MkV) : List Value := [.int .i64 B.d.i, .int .i64 B.d.o, .int .i64 B.d.n, .int .i64 B.d.s, .slice B.d.ra B.d.rs.length B.d.rc, .slice B.d.fa B.d.fs.length B.d.fc,
  .slice B.la B.ls.length B.lc, .slice B.ra B.rows.length B.rc, .slice B.fa B.fins.length B.fc, .slice V.pa V.ps.length V.pc, .map (some B.nb), .map (some B.ab), .map (some B.eb)]
def mkTail (V : MkV) : List Value := [.slice V.na V.ns.length V.nc, .slice V.aa V.acs.length V.ac, .slice V.ea V.es.length V.ec]
def mkCells (B : MkB) (V : MkV) : List Value := mkHead B V ++ (B.cls.map (Value.int .u8) ++ mkTail V)
theorem mkCells_lo (B : MkB) (V : MkV) {i : Nat} (hi : i < 13) : (mkCells B V)[i]? = (mkHead B V)[i]? := by
  unfold mkCells
  rw [List.getElem?_append_left (by simpa [mkHead] using hi)]
theorem mkCells_hi (B : MkB) (V : MkV) (hc : B.cls.length = 256) (j : Nat) : (mkCells B V)[269 + j]? = (mkTail V)[j]? := by
  unfold mkCells
  rw [List.getElem?_append_right (by simp [mkHead]; omega), List.getElem?_append_right (by simp [mkHead, hc]; omega)]
  congr 1
  simp [mkHead, hc]; omega
theorem mkCells_len (B : MkB) (V : MkV) (hc : B.cls.length = 256) : (mkCells B V).length = 272 := by simp [mkCells, mkHead, mkTail, hc]
theorem mkCells_set9 (B : MkB) (V : MkV) (a : Option Addr) (c : Nat) (ps : List Place) : (mkCells B V).set 9 (.slice a ps.length c) = mkCells B { V with pa := a, pc := c, ps := ps } := rfl
theorem set_hi {l m : List Value} {k : Nat} (hl : l.length = k) (j : Nat) (v : Value) : (l ++ m).set (k + j) v = l ++ m.set j v := by
  rw [List.set_append_right _ _ (by omega)]
  congr 2; omega
theorem mkCells_set269 (B : MkB) (V : MkV) (hc : B.cls.length = 256) (a : Option Addr) (c : Nat) (ns : List NodeI) : (mkCells B V).set 269 (.slice a ns.length c) = mkCells B { V with na := a, nc := c, ns := ns } := by
  unfold mkCells
  rw [← List.append_assoc, show 269 = 269 + 0 from rfl, set_hi (by simp [mkHead, hc]), List.append_assoc]; rfl
theorem mkCells_set270 (B : MkB) (V : MkV) (hc : B.cls.length = 256) (a : Option Addr) (c : Nat) (acs : List (Nat × ActI)) : (mkCells B V).set 270 (.slice a acs.length c) = mkCells B { V with aa := a, ac := c, acs := acs } := by
  unfold mkCells
  rw [← List.append_assoc, show 270 = 269 + 1 from rfl, set_hi (by simp [mkHead, hc]), List.append_assoc]; rfl
theorem mkCells_set271 (B : MkB) (V : MkV) (hc : B.cls.length = 256) (a : Option Addr) (c : Nat) (es : List (Nat × OutI)) : (mkCells B V).set 271 (.slice a es.length c) = mkCells B { V with ea := a, ec := c, es := es } := by
  unfold mkCells
  rw [← List.append_assoc, show 271 = 269 + 2 from rfl, set_hi (by simp [mkHead, hc]), List.append_assoc]; rfl
def LLi (A : Option Addr) (O : List (Item Int)) (W : World) : Prop := Items IntsAt A O.length O W ∧ O.length ≤ 9223372036854775807
theorem IntsAt.lasts : Lasts IntsAt := fun A l w w' h hb => h.below hb
theorem LLi.below {A : Option Addr} {O : List (Item Int)} {w w' : World} (h : LLi A O w) (hb : Below w.heap.size w w') : LLi A O w' := ⟨Items.below h.1 IntsAt.lasts hb, h.2⟩
def Mut (B : MkB) (V : MkV) (k : Nat) : Prop := k = B.mb ∨ k = B.nb ∨ k = B.ab ∨ k = B.eb ∨ ownA V.pa = some k ∨ ownA V.aa = some k ∨ ownA V.ea = some k ∨ ownA V.na = some k
structure ImmW (B : MkB) (V : MkV) (W : World) : Prop where
  ls : IntsAt B.la B.ls W
  rows : LLi B.ra B.rows W
  fins : LLi B.fa B.fins W
  acs : ∀ x ∈ V.acs, ActW x.2 W
  es : ∀ x ∈ V.es, OutW x.2 W
  ns : ∀ x ∈ V.ns, NodeW x W
theorem ImmW.below {B : MkB} {V : MkV} {W W' : World} (h : ImmW B V W) (hb : Below W.heap.size W W') : ImmW B V W' :=
  ⟨h.ls.below hb, h.rows.below hb, h.fins.below hb, fun x hx => ActW.stays _ _ _ (h.acs x hx) hb, fun x hx => OutW.stays _ _ _ (h.es x hx) hb, fun x hx => NodeW.stays _ _ _ (h.ns x hx) hb⟩
def idxM (l : List Nat) : List (Value × Value) := l.zipIdx.map fun x => (.int .i64 (x.1 : Int), .int .i64 (x.2 : Int))
def numM (l : List Place) : List (Value × Value) := l.zipIdx.map fun x => (placeV x.1, .int .i64 (x.2 : Int))
structure Mk (B : MkB) (V : MkV) (W : World) : Prop where
  box : W.heap[B.mb]? = some (.cells (mkCells B V).toArray 143 (0, 0))
  cl : B.cls.length = 256
  lo : B.n ≤ B.mb ∧ B.n ≤ B.nb ∧ B.n ≤ B.ab ∧ B.n ≤ B.eb
  dis : B.nb ≠ B.ab ∧ B.nb ≠ B.eb ∧ B.ab ≠ B.eb
  pl : W.ownsRow B.n 150 6 (.slice V.pa V.ps.length V.pc) V.ps.length (V.ps.flatMap placeC)
  num : MapIs Tryz.prog 150 B.nb (numM V.ps) W
  pok : ∀ p ∈ V.ps, PlaceOk p
  al : W.ownsRow B.n 59 3 (.slice V.aa V.acs.length V.ac) V.acs.length (V.acs.flatMap fun x => actC x.2)
  am : MapIs Tryz.prog 3 B.ab (idxM (V.acs.map (·.1))) W
  el : W.ownsRow B.n 57 1 (.slice V.ea V.es.length V.ec) V.es.length (V.es.flatMap fun x => [OutI.v x.2])
  em : MapIs Tryz.prog 3 B.eb (idxM (V.es.map (·.1))) W
  nl : W.ownsRow B.n 64 3 (.slice V.na V.ns.length V.nc) V.ns.length (V.ns.flatMap nodeC)
  imm : Dep (fun k => ¬ Mut B V k ∧ ¬ B.av k) W (ImmW B V)
  avl : ∀ k, B.av k → k < W.heap.size
structure MkF (B : MkB) (V V' : MkV) (W W' : World) : Prop where
  bel : Below B.n W W'
  blk : ∀ k, k < W.heap.size → ¬ Mut B V k → W'.heap[k]? = W.heap[k]?
  sub : ∀ k, k < W.heap.size → Mut B V' k → Mut B V k
section
variable {B : MkB} {V V' V'' : MkV} {W W' W'' : World}
theorem MkF.refl (B : MkB) (V : MkV) (W : World) : MkF B V V W W := ⟨Below.refl _ _, fun _ _ _ => rfl, fun _ _ h => h⟩
theorem MkF.trans (h : MkF B V V' W W') (k : MkF B V' V'' W' W'') : MkF B V V'' W W'' :=
  ⟨h.bel.trans k.bel, fun j hj hn => (k.blk j (Nat.lt_of_lt_of_le hj h.bel.size) (fun e => hn (h.sub j hj e))).trans (h.blk j hj hn), fun j hj hm => h.sub j hj (k.sub j (Nat.lt_of_lt_of_le hj h.bel.size) hm)⟩
theorem MkF.of_below (h : Below W.heap.size W W') (hn : B.n ≤ W.heap.size) : MkF B V V W W' := ⟨h.mono hn, fun j hj _ => h.block j hj, fun _ _ h => h⟩
theorem Mk.cell (h : Mk B V W) {i : Nat} {v : Value} (hv : (mkCells B V)[i]? = some v) : W.cell? ⟨B.mb, i, none⟩ = some v := by
  have := h.box
  simp [World.cell?, this, hv]
theorem Mk.frozen (h : Mk B V W) (i : Nat) : W.frozen? ⟨B.mb, i, none⟩ = false := by
  have := h.box
  simp [World.frozen?, this]
theorem Mk.clo (h : Mk B V W) {i : Nat} {v : Value} (hi : i < 13) (hv : (mkHead B V)[i]? = some v) : W.cell? ⟨B.mb, i, none⟩ = some v := h.cell ((mkCells_lo B V hi).trans hv)
theorem Mk.chi (h : Mk B V W) {j : Nat} {v : Value} (hv : (mkTail V)[j]? = some v) : W.cell? ⟨B.mb, 269 + j, none⟩ = some v := h.cell ((mkCells_hi B V h.cl j).trans hv)
theorem Mk.mlt (h : Mk B V W) : B.mb < W.heap.size := (Array.getElem?_eq_some_iff.1 h.box).1
theorem Mk.nle (h : Mk B V W) : B.n ≤ W.heap.size := by have := h.mlt; have := h.lo.1; omega
theorem Mk.mut_lt (h : Mk B V W) {k : Nat} (hk : Mut B V k) : B.n ≤ k ∧ k < W.heap.size := by
  rcases hk with rfl | rfl | rfl | rfl | hk | hk | hk | hk
  · exact ⟨h.lo.1, h.mlt⟩
  · exact ⟨h.lo.2.1, h.num.lt⟩
  · exact ⟨h.lo.2.2.1, h.am.lt⟩
  · exact ⟨h.lo.2.2.2, h.em.lt⟩
  · exact ⟨(own_ty h.pl hk).1, (own_ty h.pl hk).2.1⟩
  · exact ⟨(own_ty h.al hk).1, (own_ty h.al hk).2.1⟩
  · exact ⟨(own_ty h.el hk).1, (own_ty h.el hk).2.1⟩
  · exact ⟨(own_ty h.nl hk).1, (own_ty h.nl hk).2.1⟩
theorem Mk.free (h : Mk B V W) {k : Nat} (hk : W.heap.size ≤ k) : ¬ Mut B V k := fun hm => by have := h.mut_lt hm; omega
theorem Mk.keep (h : Mk B V W) (hs : W.heap.size ≤ W'.heap.size) (hk : ∀ k, B.n ≤ k → k < W.heap.size → W'.heap[k]? = W.heap[k]?) (hd : ∀ k, k < W.heap.size → W'.heap[k]? = W.heap[k]?) : Mk B V W' :=
  ⟨(hk _ h.lo.1 h.mlt).trans h.box, h.cl, h.lo, h.dis, own_keep h.pl fun k hA => hd k (own_ty h.pl hA).2.1, h.num.same (hd _ h.num.lt), h.pok, own_keep h.al fun k hA => hd k (own_ty h.al hA).2.1, h.am.same (hd _ h.am.lt),
   own_keep h.el fun k hA => hd k (own_ty h.el hA).2.1, h.em.same (hd _ h.em.lt), own_keep h.nl fun k hA => hd k (own_ty h.nl hA).2.1, h.imm.step (fun k _ hl => hd k hl) hs (fun _ hp _ => hp), fun k hk => Nat.lt_of_lt_of_le (h.avl k hk) hs⟩
theorem Mk.below (h : Mk B V W) (hb : Below W.heap.size W W') : Mk B V W' := h.keep hb.size (fun k _ hl => hb.block k hl) fun k hl => hb.block k hl
theorem cellAl {w : World} {p : Addr} {v : Value} (o : Obj) (h : w.cell? p = some v) : (w.alloc o).cell? p = some v := (((Below.refl w.heap.size w).alloc (Nat.le_refl _) o).cell (World.block_lt_of_cell? w p h)).trans h
theorem cells_ne_map {W : World} {a b : Nat} {cs : Array Value} {t : TypeId} {fr : Nat × Nat} {P : Program} {kt : TypeId} {M : List (Value × Value)} (h : W.heap[a]? = some (.cells cs t fr)) (k : MapIs P kt b M W) : a ≠ b := by
  rintro rfl
  obtain ⟨es, clock, hb, _⟩ := k
  rw [h] at hb; cases hb
theorem own_ne_map {W : World} {m sz n c b : Nat} {et : TypeId} {A : Option Addr} {xs : List Value} {P : Program} {kt : TypeId} {M : List (Value × Value)} (h : W.ownsRow m et sz (.slice A n c) n xs) (k : MapIs P kt b M W) : ownA A ≠ some b := fun e => by
  obtain ⟨_, _, cur, hb⟩ := own_ty h e
  exact cells_ne_map hb k rfl
theorem own_ne_cells {W : World} {m sz n c b : Nat} {et t : TypeId} {A : Option Addr} {xs : List Value} {cs : Array Value} {fr : Nat × Nat} (h : W.ownsRow m et sz (.slice A n c) n xs) (k : W.heap[b]? = some (.cells cs t fr)) (ht : et ≠ t) : ownA A ≠ some b := fun e => by
  obtain ⟨_, _, cur, hb⟩ := own_ty h e
  rw [k] at hb
  injection hb with hb; injection hb with _ hb
  exact ht hb.symm
theorem MapIs.congr {P : Program} {kt : TypeId} {b : Nat} {M M' : List (Value × Value)} (h : MapIs P kt b M W) (hn : (M'.map (·.1)).Nodup) (hm : ∀ p, p ∈ M' ↔ p ∈ M) : MapIs P kt b M' W := by
  obtain ⟨es, clock, h1, h2, _, h4⟩ := h
  exact ⟨es, clock, h1, h2, hn, fun p => (hm p).trans (h4 p)⟩
end
theorem tyPM : (150 : TypeId) ≠ 143 := by decide
theorem tyPA : (150 : TypeId) ≠ 59 := by decide
theorem tyPT : (150 : TypeId) ≠ 57 := by decide
theorem tyPN : (150 : TypeId) ≠ 64 := by decide
theorem tyAM : (59 : TypeId) ≠ 143 := by decide
theorem tyAT : (59 : TypeId) ≠ 57 := by decide
theorem tyAN : (59 : TypeId) ≠ 64 := by decide
theorem tyTM : (57 : TypeId) ≠ 143 := by decide
theorem tyTN : (57 : TypeId) ≠ 64 := by decide
theorem tyNM : (64 : TypeId) ≠ 143 := by decide
def putL {α : Type} [DecidableEq α] (l : List α) (x : α) : List α := if x ∈ l then l else l ++ [x]
theorem numM_mem {l : List Place} {k v : Value} : (k, v) ∈ numM l ↔ ∃ (i : Nat) (p : Place), l[i]? = some p ∧ k = placeV p ∧ v = .int .i64 (i : Int) := by
  unfold numM
  rw [List.mem_map]
  constructor
  · rintro ⟨⟨p, i⟩, hm, he⟩
    injection he with h1 h2
    exact ⟨i, p, by simpa using List.mem_zipIdx_iff_getElem?.1 hm, h1.symm, h2.symm⟩
  · rintro ⟨i, p, hp, rfl, rfl⟩
    exact ⟨(p, i), List.mem_zipIdx_iff_getElem?.2 hp, rfl⟩
theorem idxM_mem {l : List Nat} {k v : Value} : (k, v) ∈ idxM l ↔ ∃ (i : Nat) (x : Nat), l[i]? = some x ∧ k = .int .i64 (x : Int) ∧ v = .int .i64 (i : Int) := by
  unfold idxM
  rw [List.mem_map]
  constructor
  · rintro ⟨⟨p, i⟩, hm, he⟩
    injection he with h1 h2
    exact ⟨i, p, by simpa using List.mem_zipIdx_iff_getElem?.1 hm, h1.symm, h2.symm⟩
  · rintro ⟨i, p, hp, rfl, rfl⟩
    exact ⟨(p, i), List.mem_zipIdx_iff_getElem?.2 hp, rfl⟩
theorem numM_fst (l : List Place) : (numM l).map (·.1) = l.map placeV := by
  unfold numM
  rw [List.map_map]
  show (l.zipIdx).map (placeV ∘ Prod.fst) = _
  rw [← List.map_map, List.zipIdx_map_fst]
theorem idxM_fst (l : List Nat) : (idxM l).map (·.1) = l.map fun (x : Nat) => (.int .i64 (x : Int) : Value) := by
  unfold idxM
  rw [List.map_map]
  show (l.zipIdx).map ((fun (x : Nat) => (.int .i64 (x : Int) : Value)) ∘ Prod.fst) = _
  rw [← List.map_map, List.zipIdx_map_fst]
theorem numM_snoc (l : List Place) (p : Place) : numM (l ++ [p]) = numM l ++ [(placeV p, .int .i64 (l.length : Int))] := by
  unfold numM
  rw [List.zipIdx_append, List.map_append]
  simp
theorem idxM_snoc (l : List Nat) (p : Nat) : idxM (l ++ [p]) = idxM l ++ [(.int .i64 (p : Int), .int .i64 (l.length : Int))] := by
  unfold idxM
  rw [List.zipIdx_append, List.map_append]
  simp
theorem mapPut_new {M : List (Value × Value)} {k v : Value} (h : ∀ p ∈ M, p.1 ≠ k) : mapPut M k v = (k, v) :: M := by
  classical
  unfold mapPut
  congr 1
  rw [List.filter_eq_self]
  intro p hp
  simpa using h p hp
end
section
open Go.RowKit
theorem Mk.nodup {B : MkB} {V : MkV} {W : World} (h : Mk B V W) : V.ps.Nodup := by
 obtain ⟨_, _, _, _, h3, _⟩ := h.num
 rw [numM_fst] at h3
 exact nodup_of_map _ h3
theorem idxOf_at {α : Type} [BEq α] [LawfulBEq α] {l : List α} {i : Nat} {x : α} (hn : l.Nodup) (h : l[i]? = some x) : l.idxOf x = i := by
 induction l generalizing i with
 | nil => simp at h
 | cons y l ih =>
  rw [List.nodup_cons] at hn
  cases i with
  | zero => simp at h; subst h; simp
  | succ i =>
   have h' : l[i]? = some x := by simpa using h
   have hne : y ≠ x := fun e => hn.1 (by rw [e]; exact List.mem_of_getElem? h')
   have hb : (y == x) = false := by simpa using hne
   rw [List.idxOf_cons, hb, ih hn.2 h']; rfl
theorem numM_look {B : MkB} {V : MkV} {W : World} (h : Mk B V W) {p : Place} (hp : PlaceOk p) (W' : World) (hW : W'.heap[B.nb]? = W.heap[B.nb]?) :
  (Instr.lookup 139 (.map (some B.nb)) (placeV p) true).run Tryz.prog W' = .ok (.tuple #[.int .i64 (if p ∈ V.ps then (V.ps.idxOf p : Int) else 0), .bool (decide (p ∈ V.ps))]) W' := by
 obtain ⟨kl, hkl⟩ := place_key hp
 have hinj : ∀ q ∈ V.ps, placeV q = placeV p → q = p := fun q hq e => placeV_inj (h.pok q hq).2.1 hp.2.1 e
 rcases (h.num.same hW).look true place_keyed Tryz.underlying139 (Tryz.zeroValue3 W') hkl with ⟨hno, hrun⟩ | ⟨v, hv, hrun⟩
 ·have hm : p ∉ V.ps := fun hm => by
   obtain ⟨i, hi⟩ := List.getElem?_of_mem hm
   exact hno _ (numM_mem.2 ⟨i, p, hi, rfl, rfl⟩) rfl
  rw [hrun]; simp [hm]
 ·obtain ⟨i, q, hq, hk, rfl⟩ := numM_mem.1 hv
  have hqp := hinj q (List.mem_of_getElem? hq) hk.symm
  subst hqp
  have hm : q ∈ V.ps := List.mem_of_getElem? hq
  rw [hrun]; simp [hm, idxOf_at h.nodup hq]
def withP (V : MkV) (a : Option Addr) (c : Nat) (ps : List Place) : MkV := { V with pa := a, pc := c, ps := ps }
def RetNode (B : MkB) (V : MkV) (p : Place) (W : World) (e : Ending) (W' : World) : Prop :=
 ∃ a c, e = .returned (.int .i64 ((putL V.ps p).idxOf p : Int)) ∧ Hid (Mk B (withP V a c (putL V.ps p)) W') ∧ Hid (MkF B V (withP V a c (putL V.ps p)) W W')
theorem infoPlace : (Tryz.prog.info? 150).map (fun i => (i.zero, i.size, i.bytes)) = some (some (.agg #[.int .i64 0, .int .i64 0, .int .i64 0, .int .i64 0, .int .i64 0, .int .i64 0]), 6, 48) := by kernel_rfl
theorem Mk.afterNode {B : MkB} {V : MkV} {W W3 : World} (h : Mk B V W) {a : Option Addr} {c : Nat} {p : Place} (hp : PlaceOk p) (hs : W.heap.size ≤ W3.heap.size)
  (hk : ∀ k, k < W.heap.size → k ≠ B.mb → k ≠ B.nb → ownA V.pa ≠ some k → W3.heap[k]? = W.heap[k]?)
  (hbox : W3.heap[B.mb]? = some (.cells (mkCells B (withP V a c (V.ps ++ [p]))).toArray 143 (0, 0)))
  (hpl : W3.ownsRow B.n 150 6 (.slice a (V.ps ++ [p]).length c) (V.ps ++ [p]).length ((V.ps ++ [p]).flatMap placeC))
  (hnum : MapIs Tryz.prog 150 B.nb (numM (V.ps ++ [p])) W3) (hnew : ∀ g, ownA a = some g → ownA V.pa = some g ∨ W.heap.size ≤ g) :
  Mk B (withP V a c (V.ps ++ [p])) W3 ∧ ∀ k, k < W.heap.size → Mut B (withP V a c (V.ps ++ [p])) k → Mut B V k := by
 have hsub : ∀ k, k < W.heap.size → Mut B (withP V a c (V.ps ++ [p])) k → Mut B V k := fun k hl hm => by
  rcases hm with e | e | e | e | e | e
  ·exact .inl e
  ·exact .inr (.inl e)
  ·exact .inr (.inr (.inl e))
  ·exact .inr (.inr (.inr (.inl e)))
  ·rcases hnew k e with e | e
   ·exact .inr (.inr (.inr (.inr (.inl e))))
   ·omega
  ·exact .inr (.inr (.inr (.inr (.inr e))))
 have hmap : ∀ {b : Nat} {kt : TypeId} {M : List (Value × Value)}, MapIs Tryz.prog kt b M W → b ≠ B.nb → MapIs Tryz.prog kt b M W3 := fun k hn => k.same (hk _ k.lt (fun e => cells_ne_map h.box k e.symm) hn (own_ne_map h.pl k))
 refine ⟨⟨hbox, h.cl, h.lo, h.dis, hpl, hnum, fun q hq => ?_, ?_, hmap h.am h.dis.1.symm, ?_, hmap h.em h.dis.2.1.symm, ?_, ?_, fun k hk => Nat.lt_of_lt_of_le (h.avl k hk) hs⟩, hsub⟩
 ·rcases List.mem_append.1 hq with hq | hq
  ·exact h.pok q hq
  ·rw [List.mem_singleton] at hq; subst hq; exact hp
 ·exact own_keep h.al fun k hA => hk k (own_ty h.al hA).2.1 (fun e => own_ne_cells h.al h.box tyAM (e ▸ hA)) (fun e => own_ne_map h.al h.num (e ▸ hA)) (fun e => own_apart h.pl h.al tyPA k e hA)
 ·exact own_keep h.el fun k hA => hk k (own_ty h.el hA).2.1 (fun e => own_ne_cells h.el h.box tyTM (e ▸ hA)) (fun e => own_ne_map h.el h.num (e ▸ hA)) (fun e => own_apart h.pl h.el tyPT k e hA)
 ·exact own_keep h.nl fun k hA => hk k (own_ty h.nl hA).2.1 (fun e => own_ne_cells h.nl h.box tyNM (e ▸ hA)) (fun e => own_ne_map h.nl h.num (e ▸ hA)) (fun e => own_apart h.pl h.nl tyPN k e hA)
 ·have h2 := h.imm.step (w' := W3) (P' := fun k => ¬ Mut B (withP V a c (V.ps ++ [p])) k ∧ ¬ B.av k) (fun k hn hl => hk k hl (fun e => hn.1 (.inl e)) (fun e => hn.1 (.inr (.inl e))) (fun e => hn.1 (.inr (.inr (.inr (.inr (.inl e))))))) hs (fun k hn hl => ⟨fun hm => hn.1 (hsub k hl hm), hn.2⟩)
  exact fun U hU => let q := h2 U hU; ⟨q.ls, q.rows, q.fins, q.acs, q.es, q.ns⟩
theorem node_mk (W : World) (B : MkB) (V : MkV) (hM : Hid (Mk B V W)) (p : Place) (hp : PlaceOk p) (s n c0 c1 c2 c3 : Int) (hpc : Hid (placeC p = [.int .i64 s, .int .i64 n, .int .i64 c0, .int .i64 c1, .int .i64 c2, .int .i64 c3])) (hl : V.ps.length ≤ 1048576) :
  Calls Tryz.prog 74 #[.pointer (some ⟨B.mb, 0, none⟩), .agg #[.int .i64 s, .int .i64 n, .int .i64 c0, .int .i64 c1, .int .i64 c2, .int .i64 c3]] W (RetNode B V p W) := by
 have hV : placeV p = .agg #[.int .i64 s, .int .i64 n, .int .i64 c0, .int .i64 c1, .int .i64 c2, .int .i64 c3] := by unfold placeV; rw [hpc.out]
 obtain ⟨wA, hwA⟩ : ∃ z, W.alloc (.cells #[.int .i64 s, .int .i64 n, .int .i64 c0, .int .i64 c1, .int .i64 c2, .int .i64 c3] 150) = z := ⟨_, rfl⟩
 have hbA : Below W.heap.size W wA := by rw [← hwA]; exact (Below.refl _ _).alloc (Nat.le_refl _) _
 have hxA : wA.heap[W.heap.size]? = some (.cells #[.int .i64 s, .int .i64 n, .int .i64 c0, .int .i64 c1, .int .i64 c2, .int .i64 c3] 150 (0, 0)) := by rw [← hwA]; exact heap_alloc_new W _
 have HMA := Lh (hM.out.below hbA)
 have HBA := Lh hbA
 have HXA := Lh hxA
 have HP := Lh hp
 have hm10 := HMA.out.clo (i := 10) (by decide) rfl
 have hm9 := HMA.out.clo (i := 9) (by decide) rfl
 have hb0 : wA.cell? ⟨W.heap.size, 0, none⟩ = some (.int .i64 s) := by simp [World.cell?, hxA]
 have hb1 : wA.cell? ⟨W.heap.size, 1, none⟩ = some (.int .i64 n) := by simp [World.cell?, hxA]
 have hb2 : wA.cell? ⟨W.heap.size, 2, none⟩ = some (.int .i64 c0) := by simp [World.cell?, hxA]
 have hb3 : wA.cell? ⟨W.heap.size, 3, none⟩ = some (.int .i64 c1) := by simp [World.cell?, hxA]
 have hb4 : wA.cell? ⟨W.heap.size, 4, none⟩ = some (.int .i64 c2) := by simp [World.cell?, hxA]
 have hb5 : wA.cell? ⟨W.heap.size, 5, none⟩ = some (.int .i64 c3) := by simp [World.cell?, hxA]
 have hlk : ∀ W', W'.heap[B.nb]? = wA.heap[B.nb]? → (Instr.lookup 139 (.map (some B.nb)) (.agg #[.int .i64 s, .int .i64 n, .int .i64 c0, .int .i64 c1, .int .i64 c2, .int .i64 c3]) true).run Tryz.prog W' = .ok (.tuple #[.int .i64 (if p ∈ V.ps then (V.ps.idxOf p : Int) else 0), .bool (decide (p ∈ V.ps))]) W' := fun W' h => by
  rw [← hV]; exact numM_look HMA.out hp W' h
 clear hbA hxA hp
 by_cases hm : p ∈ V.ps
 ·have hlk2 : ∀ k, (Instr.lookup 139 (.map (some B.nb)) (.agg #[.int .i64 s, .int .i64 n, .int .i64 c0, .int .i64 c1, .int .i64 c2, .int .i64 c3]) true).run Tryz.prog (wA.drewN k) = .ok (.tuple #[.int .i64 (V.ps.idxOf p : Int), .bool true]) (wA.drewN k) := fun k => by
   have := hlk (wA.drewN k) rfl
   simpa [hm] using this
  have HIN : Hid (putL V.ps p = V.ps) := Lh (by unfold putL; rw [if_pos hm])
  clear hlk hm hV
  go_enter Tryz.func74, Tryz.ntmps74
  go_wp2_with fail
  go_quiet (fail)
  go_wp2_with fail
  go_ret
  refine ⟨V.pa, V.pc, by rw [HIN.out]; rfl, Lh ?_, Lh ?_⟩
  ·rw [HIN.out]; exact HMA.out.below (below_drewN (Below.refl _ _) _)
  ·rw [HIN.out]
   exact MkF.of_below (below_drewN HBA.out _) hM.out.nle
 ·have hlk2 : ∀ k, (Instr.lookup 139 (.map (some B.nb)) (.agg #[.int .i64 s, .int .i64 n, .int .i64 c0, .int .i64 c1, .int .i64 c2, .int .i64 c3]) true).run Tryz.prog (wA.drewN k) = .ok (.tuple #[.int .i64 0, .bool false]) (wA.drewN k) := fun k => by
   have := hlk (wA.drewN k) rfl
   simpa [hm] using this
  have HIN : Hid (putL V.ps p = V.ps ++ [p]) := Lh (by unfold putL; rw [if_neg hm])
  have HNM := Lh hm
  have HVV := Lh hV
  clear hlk hm hV
  go_enter Tryz.func74, Tryz.ntmps74
  go_wp2_with fail
  go_quiet (fail)
  go_wp2_with fail
  have hbox6 : ∀ w' : World, w'.heap[W.heap.size]? = wA.heap[W.heap.size]? → w'.cell? ⟨W.heap.size, 0, none⟩ = some (.int .i64 s) ∧ w'.cell? ⟨W.heap.size, 1, none⟩ = some (.int .i64 n) ∧ w'.cell? ⟨W.heap.size, 2, none⟩ = some (.int .i64 c0) ∧ w'.cell? ⟨W.heap.size, 3, none⟩ = some (.int .i64 c1) ∧ w'.cell? ⟨W.heap.size, 4, none⟩ = some (.int .i64 c2) ∧ w'.cell? ⟨W.heap.size, 5, none⟩ = some (.int .i64 c3) := fun w' h => by
   have h2 := h.trans HXA.out
   refine ⟨?_, ?_, ?_, ?_, ?_, ?_⟩ <;> simp [World.cell?, h2]
  obtain ⟨w2, hw2⟩ : ∃ z, (wA.drewN nq).drew = z := ⟨_, rfl⟩
  have hh2 : w2.heap = wA.heap := by rw [← hw2]; rfl
  have hb2A : Below wA.heap.size wA w2 := by rw [← hw2]; exact (below_drewN (Below.refl _ _) _).drew
  have HB2A := Lh hb2A
  have HH2 := Lh hh2
  have HX6 := Lh hbox6
  have h210 : w2.cell? ⟨B.mb, 10, none⟩ = some (.map (some B.nb)) := (hb2A.cell (lt_of_cell hm10)).trans hm10
  have h26 := hbox6 w2 (by rw [hh2])
  clear hb0 hb1 hb2 hb3 hb4 hb5 hlk2 hbox6 hh2 hb2A
  refine wp_region_Z 6 (by kernel_rfl) (fun V' => V'.cell? ⟨B.mb, 10, none⟩ = some (.map (some B.nb)) ∧ V'.cell? ⟨W.heap.size, 0, none⟩ = some (.int .i64 s) ∧ V'.cell? ⟨W.heap.size, 1, none⟩ = some (.int .i64 n) ∧ V'.cell? ⟨W.heap.size, 2, none⟩ = some (.int .i64 c0) ∧ V'.cell? ⟨W.heap.size, 3, none⟩ = some (.int .i64 c1) ∧ V'.cell? ⟨W.heap.size, 4, none⟩ = some (.int .i64 c2) ∧ V'.cell? ⟨W.heap.size, 5, none⟩ = some (.int .i64 c3)) (by rw [hw2]; exact ⟨h210, h26⟩) (fun hHeld => ?_)
  refine zt (v := ?_) 0 rfl ?_ ?_
  rotate_left
  ·intro w hSw; (try dsimp only at hSw); go_simp; (try with_reducible rfl)
  (try simp only [Act.put, zq1, zq2, zq3, zq4, zq5, zq6])
  refine zt (v := ?_) 1 rfl ?_ ?_
  rotate_left
  ·intro w hSw; (try dsimp only at hSw); go_simp; (try with_reducible rfl)
  (try simp only [Act.put, zq1, zq2, zq3, zq4, zq5, zq6])
  refine zt (v := ?_) 2 rfl ?_ ?_
  rotate_left
  ·intro w hSw; (try dsimp only at hSw); go_simp; (try with_reducible rfl)
  (try simp only [Act.put, zq1, zq2, zq3, zq4, zq5, zq6])
  refine zt (v := ?_) 3 rfl ?_ ?_
  rotate_left
  ·intro w hSw; (try dsimp only at hSw); go_simp; (try with_reducible rfl)
  (try simp only [Act.put, zq1, zq2, zq3, zq4, zq5, zq6])
  refine zt (v := ?_) 4 rfl ?_ ?_
  rotate_left
  ·intro w hSw; (try dsimp only at hSw); go_simp; (try with_reducible rfl)
  (try simp only [Act.put, zq1, zq2, zq3, zq4, zq5, zq6])
  refine zt (v := ?_) 5 rfl ?_ ?_
  rotate_left
  ·intro w hSw; (try dsimp only at hSw); go_simp; (try with_reducible rfl)
  (try simp only [Act.put, zq1, zq2, zq3, zq4, zq5, zq6])
  rw [hw2]
  obtain ⟨kl, hkl⟩ := place_key HP.out
  obtain ⟨wB, hrun, hMB, hGB, hSB⟩ := (HMA.out.num.same (w' := w2) (by rw [HH2.out])).put place_keyed Tryz.underlying139 (by unfold numM; rw [List.length_map, List.length_zipIdx]; unfold maxLen; omega) (.int .i64 (V.ps.length : Int)) hkl
  rw [HVV.out] at hrun
  have HMB : Hid (MapIs Tryz.prog 150 B.nb (numM (V.ps ++ [p])) wB) := Lh (by
   rw [mapPut_new (fun q hq e => by
    obtain ⟨k, v⟩ := q
    obtain ⟨i, r, hr, hk, _⟩ := numM_mem.1 hq
    have hrm := List.mem_of_getElem? hr
    have := placeV_inj (HMA.out.pok r hrm).2.1 HP.out.2.1 (hk.symm.trans e)
    subst this
    exact HNM.out hrm)] at hMB
   refine hMB.congr ?_ ?_
   ·rw [numM_fst, List.map_append]
    have h1 := HMA.out.nodup
    have h2 : ((V.ps ++ [p]).map placeV).Nodup := by
     have hn : (V.ps ++ [p]).Nodup := List.nodup_append.2 ⟨h1, by simp, fun a ha b hb e => HNM.out (by rw [List.mem_singleton] at hb; rw [← hb, ← e]; exact ha)⟩
     unfold List.Nodup
     rw [List.pairwise_map]
     refine List.Pairwise.imp_of_mem (fun {a b} ha hb hne e => hne ?_) hn
     have hok : ∀ q ∈ V.ps ++ [p], q.2.length ≤ 4 := fun q hq => by
      rcases List.mem_append.1 hq with hq | hq
      ·exact (HMA.out.pok q hq).2.1
      ·rw [List.mem_singleton] at hq; subst hq; exact HP.out.2.1
     exact placeV_inj (hok a ha) (hok b hb) e
    rwa [List.map_append] at h2
   ·intro q
    rw [numM_snoc]
    simp only [List.mem_append, List.mem_cons, List.not_mem_nil, or_false]
    exact Or.comm)
  refine wpAnyZ_last (i := 6) rfl (by kernel_rfl) (by kernel_rfl) rfl (fun K hK => ?_)
  refine wp_mapUpdate rfl rfl rfl rfl hrun ?_
  refine hK.out _ _ ?_
  clear hHeld hK K hrun hMB hw2 h210 h26
  (try simp only [Act.put, zq1, zq2, zq3, zq4, zq5, zq6])
  have HGB := Lh hGB
  have HSB := Lh hSB
  have hAB : ∀ k, k < wA.heap.size → k ≠ B.nb → wB.heap[k]? = wA.heap[k]? := fun k hk hn => (HGB.out.block k (by rw [HH2.out]; exact hk) (fun e => hn (by injection e))).trans (by rw [HH2.out])
  have HAB := Lh hAB
  have hmn : B.mb ≠ B.nb := cells_ne_map HMA.out.box HMA.out.num
  have hmbB : wB.heap[B.mb]? = some (.cells (mkCells B V).toArray 143 (0, 0)) := (hAB _ HMA.out.mlt hmn).trans HMA.out.box
  have HMBB := Lh hmbB
  have hWA : W.heap.size < wA.heap.size := (Array.getElem?_eq_some_iff.1 HXA.out).1
  have hWn : W.heap.size ≠ B.nb := fun e => by have := hM.out.num.lt; omega
  obtain ⟨w4, hw4⟩ : ∃ z, wB.drew = z := ⟨_, rfl⟩
  have hh4 : w4.heap = wB.heap := by rw [← hw4]; rfl
  have HH4 := Lh hh4
  have h49 : w4.cell? ⟨B.mb, 9, none⟩ = some (.slice V.pa V.ps.length V.pc) := by
   have : w4.heap[B.mb]? = some (.cells (mkCells B V).toArray 143 (0, 0)) := by rw [hh4]; exact hmbB
   simp only [World.cell?, this]; rfl
  have h46 := HX6.out w4 (by rw [hh4]; exact hAB _ hWA hWn)
  clear hGB hSB hAB hmbB hh4
  go_wp2_with fail
  refine wp_region_Z 10 (by kernel_rfl) (fun V' => V'.cell? ⟨B.mb, 9, none⟩ = some (.slice V.pa V.ps.length V.pc) ∧ V'.cell? ⟨W.heap.size, 0, none⟩ = some (.int .i64 s) ∧ V'.cell? ⟨W.heap.size, 1, none⟩ = some (.int .i64 n) ∧ V'.cell? ⟨W.heap.size, 2, none⟩ = some (.int .i64 c0) ∧ V'.cell? ⟨W.heap.size, 3, none⟩ = some (.int .i64 c1) ∧ V'.cell? ⟨W.heap.size, 4, none⟩ = some (.int .i64 c2) ∧ V'.cell? ⟨W.heap.size, 5, none⟩ = some (.int .i64 c3)) (by rw [hw4]; exact ⟨h49, h46⟩) (fun hHeld => ?_)
  refine zt (v := ?_) 0 rfl ?_ ?_
  rotate_left
  ·intro w hSw; (try dsimp only at hSw); go_simp; (try with_reducible rfl)
  (try simp only [Act.put, zq1, zq2, zq3, zq4, zq5, zq6])
  refine zt (v := ?_) 1 rfl ?_ ?_
  rotate_left
  ·intro w hSw; (try dsimp only at hSw); go_simp; (try with_reducible rfl)
  (try simp only [Act.put, zq1, zq2, zq3, zq4, zq5, zq6])
  refine zt (v := ?_) 2 rfl ?_ ?_
  rotate_left
  ·intro w hSw; (try dsimp only at hSw); go_simp; (try with_reducible rfl)
  (try simp only [Act.put, zq1, zq2, zq3, zq4, zq5, zq6])
  refine zt (v := ?_) 3 rfl ?_ ?_
  rotate_left
  ·intro w hSw; (try dsimp only at hSw); go_simp; (try with_reducible rfl)
  (try simp only [Act.put, zq1, zq2, zq3, zq4, zq5, zq6])
  refine zt (v := ?_) 4 rfl ?_ ?_
  rotate_left
  ·intro w hSw; (try dsimp only at hSw); go_simp; (try with_reducible rfl)
  (try simp only [Act.put, zq1, zq2, zq3, zq4, zq5, zq6])
  refine zt (v := ?_) 5 rfl ?_ ?_
  rotate_left
  ·intro w hSw; (try dsimp only at hSw); go_simp; (try with_reducible rfl)
  (try simp only [Act.put, zq1, zq2, zq3, zq4, zq5, zq6])
  rw [hw4]
  refine wpAnyZ_ready (i := 6) (by kernel_rfl) rfl (fun K hK => ?_)
  go_simp
  refine hK.out _ _ (⟨cellAl _ h49, cellAl _ h46.1, cellAl _ h46.2.1, cellAl _ h46.2.2.1, cellAl _ h46.2.2.2.1, cellAl _ h46.2.2.2.2.1, cellAl _ h46.2.2.2.2.2⟩) (fun hHeld => ?_)
  clear hK K
  (try simp only [Act.put, zq1, zq2, zq3, zq4, zq5, zq6])
  have HPL : Hid (w4.ownsRow B.n 150 6 (.slice V.pa V.ps.length V.pc) V.ps.length (V.ps.flatMap placeC)) := Lh (own_keep HMA.out.pl fun k hk => by
   rw [HH4.out]
   exact HAB.out k (own_ty HMA.out.pl hk).2.1 (fun e => own_ne_map HMA.out.pl HMA.out.num (e ▸ hk)))
  obtain ⟨i0, hi, hz0, hz1, hz2⟩ := info_parts infoPlace
  have hl40 : V.ps.length < 1099511627776 := by omega
  have hs4 : wA.heap.size ≤ w4.heap.size := by rw [HH4.out, HSB.out, HH2.out]; exact Nat.le_refl _
  have hn4 : B.n ≤ w4.heap.size := Nat.le_trans HMA.out.nle hs4
  refine wpAnyZ_ready (i := 7) (by kernel_rfl) rfl (fun K hK => ?_)
  refine step_pushG rfl _ _ 141 rfl B.n 150 i0 _ 6 48 Tryz.underlying141 hi hz0 hz1 hz2 rfl (by decide) HPL.out rfl [.int .i64 s, .int .i64 n, .int .i64 c0, .int .i64 c1, .int .i64 c2, .int .i64 c3] 150 rfl rfl (by simp [Value.oneCell']) hl40 (by decide) hn4 ?_
  intro A9 c9 w9 HO9 HG9 HN9
  have hpaW : ∀ k, ownA V.pa = some k → k < W.heap.size := fun k hk => (own_ty hM.out.pl hk).2.1
  have hpm : ownA V.pa ≠ some B.mb := own_ne_cells HMA.out.pl HMA.out.box tyPM
  have hpx : ownA V.pa ≠ some W.heap.size := fun e => by have := hpaW _ e; omega
  have h99 : w9.cell? ⟨B.mb, 9, none⟩ = some (.slice V.pa V.ps.length V.pc) := HG9.out.cell (cellAl _ h49) (fun e => hpm e.symm)
  have hgo : ∀ {j : Nat} {v : Value}, w4.cell? ⟨W.heap.size, j, none⟩ = some v → w9.cell? ⟨W.heap.size, j, none⟩ = some v := fun h => HG9.out.cell (cellAl _ h) (fun e => hpx e.symm)
  have h9m : w9.heap[B.mb]? = some (.cells (mkCells B V).toArray 143 (0, 0)) := (HG9.out.block _ (by have := HMA.out.mlt; simp; omega) (fun e => hpm e.symm)).trans ((Below.heap_alloc _ _ _ (by have := HMA.out.mlt; omega)).trans (by rw [HH4.out]; exact HMBB.out))
  have h9f : w9.frozen? ⟨B.mb, 9, none⟩ = false := by simp [World.frozen?, h9m]
  refine hK.out _ _ (⟨h99, hgo h46.1, hgo h46.2.1, hgo h46.2.2.1, hgo h46.2.2.2.1, hgo h46.2.2.2.2.1, hgo h46.2.2.2.2.2⟩) (fun hHeld => ?_)
  clear hK K
  (try simp only [Act.put, zq1, zq2, zq3, zq4, zq5, zq6])
  refine wpAnyZ_ready (i := 8) (by kernel_rfl) rfl (fun K hK => ?_)
  go_simp
  refine hK.out _ _ (⟨h99, hgo h46.1, hgo h46.2.1, hgo h46.2.2.1, hgo h46.2.2.2.1, hgo h46.2.2.2.2.1, hgo h46.2.2.2.2.2⟩) (fun hHeld => ?_)
  clear hK K
  (try simp only [Act.put, zq1, zq2, zq3, zq4, zq5, zq6])
  refine zt (v := ?_) 9 rfl ?_ ?_
  rotate_left
  ·intro w hSw; (try dsimp only at hSw); go_simp; (try with_reducible rfl)
  (try simp only [Act.put, zq1, zq2, zq3, zq4, zq5, zq6])
  refine wpAnyZ_last (i := 10) rfl (by kernel_rfl) (by kernel_rfl) rfl (fun K hK => ?_)
  go_simp
  refine hK.out _ _ ?_
  have HF : Hid (RetNode B V p W (.returned (.int .i64 (V.ps.length : Int))) (w9.setCell ⟨B.mb, 9, none⟩ (.slice A9 (V.ps.length + 1) c9))) := Lh (by
   have hst : ∀ k, k ≠ B.mb → (w9.setCell ⟨B.mb, 9, none⟩ (.slice A9 (V.ps.length + 1) c9)).heap[k]? = w9.heap[k]? := fun k hk => heap_setCell_other _ _ _ _ hk
   have hs9 := HG9.out.size
   simp at hs9
   have hchain : ∀ k, k < wA.heap.size → k ≠ B.mb → k ≠ B.nb → ownA V.pa ≠ some k → (w9.setCell ⟨B.mb, 9, none⟩ (.slice A9 (V.ps.length + 1) c9)).heap[k]? = wA.heap[k]? := fun k hk h1 h2 h3 =>
    (hst k h1).trans ((HG9.out.block k (by simp; omega) (fun e => h3 e.symm)).trans ((Below.heap_alloc _ _ _ (by omega)).trans (by rw [HH4.out]; exact HAB.out k hk h2)))
   have hlen : (V.ps ++ [p]).length = V.ps.length + 1 := by simp
   have hMk := HMA.out.afterNode (W3 := w9.setCell ⟨B.mb, 9, none⟩ (.slice A9 (V.ps.length + 1) c9)) (a := A9) (c := c9) HP.out (by simp; omega) hchain
    (by
     rw [heap_setCell_same w9 B.mb 9 _ _ _ h9m, List.setIfInBounds_toArray, ← hlen]
     rw [mkCells_set9]; rfl)
    (by
     rw [hlen, List.flatMap_append]
     have h := own_keep HO9.out (w' := w9.setCell ⟨B.mb, 9, none⟩ (.slice A9 (V.ps.length + 1) c9)) (fun k hk => hst k (fun e => by
      rcases HN9.out with e2 | ⟨g, e2, hg⟩
      ·rw [e2] at hk; exact hpm (e ▸ hk)
      ·rw [e2] at hk; injection hk with hk; have := HMA.out.mlt; omega))
     simpa [hpc.out] using h)
    (HMB.out.same ((hst _ (cells_ne_map HMA.out.box HMA.out.num).symm).trans ((HG9.out.block _ (by have := HMA.out.num.lt; simp; omega) (fun e => own_ne_map HMA.out.pl HMA.out.num e.symm)).trans ((Below.heap_alloc _ _ _ (by have := HMA.out.num.lt; omega)).trans (by rw [HH4.out])))))
    (fun g hg => by
     rcases HN9.out with e2 | ⟨q, e2, hq⟩
     ·rw [e2] at hg; exact .inl hg
     ·rw [e2] at hg; injection hg with hg; right; omega)
   refine ⟨A9, c9, ?_, Lh (by rw [HIN.out]; exact hMk.1), Lh (by
    rw [HIN.out]
    refine ⟨?_, fun k hk hn => ?_, fun k hk hm => hMk.2 k (by have := HBA.out.size; omega) hm⟩
    ·have h1 : Below B.n W wB := ((HBA.out.mono hM.out.nle).trans (HB2A.out.mono HMA.out.nle)).grown HGB.out (by rw [HH2.out]; exact HMA.out.nle) (fun k hk => by injection hk with hk; rw [← hk]; exact HMA.out.lo.2.1)
     have h2 : Below B.n W w4 := by rw [← hw4]; exact h1.drew
     exact ((h2.alloc hn4 _).grown HG9.out (by simp; omega) (fun k hk => (own_ty HMA.out.pl hk).1)).setCell HMA.out.lo.1 _
    ·exact (hchain k (by have := HBA.out.size; omega) (fun e => hn (.inl e)) (fun e => hn (.inr (.inl e))) (fun e => hn (.inr (.inr (.inr (.inr (.inl e))))))).trans (HBA.out.block k hk))⟩
   rw [HIN.out, idxOf_at (i := V.ps.length) (by
    have := hMk.1.nodup
    exact this) (by simp)])
  clear hHeld hK K h9f h9m hgo h99 hpx hpm hpaW hw4 h49 h46 HO9 HG9 HN9
  (try simp only [Act.put, zq1, zq2, zq3, zq4, zq5, zq6])
  go_wp2_with fail
  go_ret
  exact HF.out
end
end Go.Proofs.YtlmkokeapbleoaaGreat
