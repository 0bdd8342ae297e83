/- The contracts of the set functions said of a walk's state: what is at hand, and what is known behind the call. Condition: the slices at hand are known (Lst), the document's are no longer than 65535. -/
import Derived.Test.YtdaagdohhnhbdaaMove
namespace Go.Proofs.Ytdaagdohhnhbdaa
open Go.RowKit
set_option linter.unusedVariables false

theorem i64_bd {z : Int} (h : (Lit.int .i64 z).wf = true) : -9223372036854775808 ≤ z ∧ z ≤ 9223372036854775807 := by
  simpa [Lit.wf, IntKind.min, IntKind.signed, IntKind.bits] using h
/-- a call that returns a slice that reads as r -/
def RetL (w0 : World) (r : List Sp) (F : World → Prop) (e : Ending) (w' : World) : Prop := ∃ A c, e = .returned (.slice A r.length c) ∧ Hid (St w0 w' (fun W => Lst A r W ∧ F W))
theorem retL_own {w0 w w' : World} {r : List Sp} {F : World → Prop} {e : Ending} (hK : Hid (St w0 w F)) (hp : Plain r) (ho : OwnList w w.heap.size r e w') : RetL w0 r F e w' := by
  obtain ⟨A1, c1, rfl, hc1, hm1, hsp, hb⟩ := of_ownList ho
  exact ⟨A1, c1, rfl, Lib.hid (hK.out.add hb (hp.lst hsp))⟩
theorem retL_new {w0 w w' : World} {r : List Sp} {F : World → Prop} {e : Ending} (hK : Hid (St w0 w F)) (hp : Plain r) (ho : NewSpans w r e w') : RetL w0 r F e w' := by
  obtain ⟨A1, n1, c1, rfl, hsp, hc, hm, hb⟩ := ho
  have := hsp.len
  subst this
  exact ⟨A1, c1, rfl, Lib.hid (hK.out.add hb (hp.lst hsp))⟩

section
variable {w0 w : World} {F : World → Prop} {A B : Option Addr} {a b r : List Sp}
theorem Norm_st (hK : Hid (St w0 w F)) (ha : ∀ W, F W → Lst A a W) (c : Nat) (hr : Hid (Rep r (Mem a))) : Calls Try.prog 70 #[.slice A a.length c] w (RetL w0 r F) := by
  have h1 := ha w hK.out.now
  refine (Norm_any A _ c a w h1.sp h1.wd (by have := h1.len; omega)).mono ?_
  rintro e w1 ⟨r', ho, hr', _⟩
  obtain rfl := Rep.unique hr' hr.out (fun _ => Iff.rfl)
  exact retL_own hK hr'.1 (ownList_of_rep ho)
theorem Meet_st (hK : Hid (St w0 w F)) (ha : ∀ W, F W → Lst A a W) (hb : ∀ W, F W → Lst B b W) (c d : Nat) (hr : Hid (Rep r (fun x => Mem a x ∧ Mem b x))) : Calls Try.prog 29 #[.slice A a.length c, .slice B b.length d] w (RetL w0 r F) := by
  have h1 := ha w hK.out.now
  have h2 := hb w hK.out.now
  refine (Meet_any A B _ c _ d a b w h1.sp h2.sp h1.wd h2.wd (by have := h1.len; omega) (by have := h2.len; omega)).mono ?_
  rintro e w1 ⟨r', ho, hr', _⟩
  obtain rfl := Rep.unique hr' hr.out (fun _ => Iff.rfl)
  exact retL_own hK hr'.1 ho
theorem Minus_st (hK : Hid (St w0 w F)) (ha : ∀ W, F W → Lst A a W) (hb : ∀ W, F W → Lst B b W) (c d : Nat) (hr : Hid (Rep r (fun x => Mem a x ∧ ¬ Mem b x))) : Calls Try.prog 66 #[.slice A a.length c, .slice B b.length d] w (RetL w0 r F) := by
  have h1 := ha w hK.out.now
  have h2 := hb w hK.out.now
  refine (Minus_any A B _ c _ d a b w h1.sp h2.sp h1.wd h2.wd (by have := h1.len; omega) (by have := h2.len; omega)).mono ?_
  rintro e w1 ⟨r', ho, hr', _⟩
  obtain rfl := Rep.unique hr' hr.out (fun _ => Iff.rfl)
  exact retL_own hK hr'.1 ho
theorem Union_st (hK : Hid (St w0 w F)) (ha : ∀ W, F W → Lst A a W) (hb : ∀ W, F W → Lst B b W) (c d : Nat) (hr : Hid (Rep r (fun x => Mem a x ∨ Mem b x))) : Calls Try.prog 51 #[.slice A a.length c, .slice B b.length d] w (RetL w0 r F) := by
  have h1 := ha w hK.out.now
  have h2 := hb w hK.out.now
  refine (Union_any A B _ c _ d a b w h1.sp h2.sp h1.wd h2.wd (by have := h1.len; omega) (by have := h2.len; omega)).mono ?_
  rintro e w1 ⟨r', ho, hr'⟩
  obtain rfl := Rep.unique hr' hr.out (fun _ => Iff.rfl)
  exact retL_own hK hr'.1 (ownList_of_rep ho)
theorem Move_st (hK : Hid (St w0 w F)) (ha : ∀ W, F W → Lst A a W) (c : Nat) {d : Int} (hr : Hid (Rep r (fun x => -1073741824 ≤ x ∧ x ≤ 1073741824 ∧ Mem a (x - d)))) : Calls Try.prog 88 #[.slice A a.length c, .int .i64 d] w (RetL w0 r F) := by
  have h1 := ha w hK.out.now
  refine (Move_any A _ c a d w h1.sp h1.wd h1.len).mono ?_
  rintro e w1 ⟨r', ho, hr'⟩
  obtain rfl := Rep.unique hr' hr.out (fun _ => Iff.rfl)
  exact retL_own hK hr'.1 ho
theorem rNorm_st (hK : Hid (St w0 w F)) (ha : ∀ W, F W → Lst A a W) (hn : a.length < 1048576) (c : Nat) (hr : Hid (Rep r (Mem a))) : Calls Try.prog 73 #[.slice A a.length c] w (RetL w0 r F) := by
  have h1 := ha w hK.out.now
  refine (rNorm_any A _ c a w h1.sp h1.wd hn).mono ?_
  rintro e w1 ⟨r', ho, hr', _⟩
  obtain rfl := Rep.unique hr' hr.out (fun _ => Iff.rfl)
  exact retL_new hK hr'.1 ho
theorem madeB_0 (a b : List Sp) (x : Int) : madeB 0 a b x = true ↔ (Mem a x ∨ Mem b x) := by
  unfold madeB inHow; rw [if_neg (by decide), if_neg (by decide), Bool.or_eq_true, hasB_iff, hasB_iff]
theorem madeB_1 (a b : List Sp) (x : Int) : madeB 1 a b x = true ↔ (Mem a x ∧ Mem b x) := by
  unfold madeB inHow; rw [if_pos rfl, Bool.and_eq_true, hasB_iff, hasB_iff]
theorem madeB_2 (a b : List Sp) (x : Int) : madeB 2 a b x = true ↔ (Mem a x ∧ ¬ Mem b x) := by
  unfold madeB inHow; rw [if_neg (by decide), if_pos rfl, Bool.and_eq_true, hasB_iff, Bool.not_eq_true', ← Bool.not_eq_true, hasB_iff]
theorem rBoth_st (hK : Hid (St w0 w F)) (ha : ∀ W, F W → Lst A a W) (hb : ∀ W, F W → Lst B b W) (hn : a.length < 1048576) (hm : b.length < 1048576) (c d : Nat) (hr : Hid (Rep r (fun x => Mem a x ∨ Mem b x))) : Calls Try.prog 64 #[.slice A a.length c, .slice B b.length d, .int .i64 0] w (RetL w0 r F) := by
  have h1 := ha w hK.out.now
  have h2 := hb w hK.out.now
  refine (Make0_any A B _ c _ d a b w h1.sp h2.sp h1.wd h2.wd hn hm).mono ?_
  rintro e w1 ⟨r', ho, hr', _⟩
  obtain rfl := Rep.unique hr' hr.out (madeB_0 a b)
  exact retL_new hK hr'.1 ho
theorem rMeet_st (hK : Hid (St w0 w F)) (ha : ∀ W, F W → Lst A a W) (hb : ∀ W, F W → Lst B b W) (hn : a.length < 1048576) (hm : b.length < 1048576) (c d : Nat) (hr : Hid (Rep r (fun x => Mem a x ∧ Mem b x))) : Calls Try.prog 64 #[.slice A a.length c, .slice B b.length d, .int .i64 1] w (RetL w0 r F) := by
  have h1 := ha w hK.out.now
  have h2 := hb w hK.out.now
  refine (Make1_any A B _ c _ d a b w h1.sp h2.sp h1.wd h2.wd hn hm).mono ?_
  rintro e w1 ⟨r', ho, hr', _⟩
  obtain rfl := Rep.unique hr' hr.out (madeB_1 a b)
  exact retL_new hK hr'.1 ho
theorem rLess_st (hK : Hid (St w0 w F)) (ha : ∀ W, F W → Lst A a W) (hb : ∀ W, F W → Lst B b W) (hn : a.length < 1048576) (hm : b.length < 1048576) (c d : Nat) (hr : Hid (Rep r (fun x => Mem a x ∧ ¬ Mem b x))) : Calls Try.prog 64 #[.slice A a.length c, .slice B b.length d, .int .i64 2] w (RetL w0 r F) := by
  have h1 := ha w hK.out.now
  have h2 := hb w hK.out.now
  refine (Make2_any A B _ c _ d a b w h1.sp h2.sp h1.wd h2.wd hn hm).mono ?_
  rintro e w1 ⟨r', ho, hr', _⟩
  obtain rfl := Rep.unique hr' hr.out (madeB_2 a b)
  exact retL_new hK hr'.1 ho
theorem Same_st (hK : Hid (St w0 w F)) (ha : ∀ W, F W → Lst A a W) (hb : ∀ W, F W → Lst B b W) (c d : Nat) {v : Bool} (hv : decide (a = b) = v) : Calls Try.prog 23 #[.slice A a.length c, .slice B b.length d] w (RetV w0 (.bool v) F) := by
  have h1 := ha w hK.out.now
  have h2 := hb w hK.out.now
  subst hv
  exact retV_drawn hK (Same_any A B _ c _ d a b w h1.sp h2.sp (by have := h1.len; omega) (by have := h2.len; omega))
theorem Count_st (hK : Hid (St w0 w F)) (ha : ∀ W, F W → Lst A a W) (c : Nat) (hr : Hid (Rep r (Mem a))) : Calls Try.prog 75 #[.slice A a.length c] w (RetV w0 (.int .i64 (cnt r)) F) := by
  have h1 := ha w hK.out.now
  exact retV_gives hK (Count_any A _ c a r w h1.sp h1.wd h1.len hr.out)
theorem Has_st (hK : Hid (St w0 w F)) (ha : ∀ W, F W → Lst A a W) (c : Nat) (x : Int) {v : Bool} (hv : hasB a x = v) : Calls Try.prog 36 #[.slice A a.length c, .int .i64 x] w (RetV w0 (.bool v) F) := by
  have h1 := ha w hK.out.now
  subst hv
  exact retV_gives hK (Has_any A _ c a x w h1.sp (by have := h1.len; omega))
theorem rHas_st (hK : Hid (St w0 w F)) (ha : ∀ W, F W → Lst A a W) (c : Nat) (x : Int) {v : Bool} (hv : hasB a x = v) : Calls Try.prog 59 #[.slice A a.length c, .int .i64 x] w (RetV w0 (.bool v) F) := by
  have h1 := ha w hK.out.now
  subst hv
  exact Calls.mono (rHas_any A _ c a x w h1.sp (by have := h1.len; omega)) fun e w' ⟨he, hw⟩ => ⟨he, hw ▸ hK⟩
theorem Check_st (hK : Hid (St w0 w F)) (ha : ∀ W, F W → Lst A a W) (c : Nat) {v : Bool} (hv : plainB (-1073741826) a = v) : Calls Try.prog 65 #[.slice A a.length c] w (RetV w0 (.bool v) F) := by
  have h1 := ha w hK.out.now
  subst hv
  exact retV_gives hK (Check_any A _ c a w h1.sp (by have := h1.len; omega))
theorem Within_st (hK : Hid (St w0 w F)) (ha : ∀ W, F W → Lst A a W) (hb : ∀ W, F W → Lst B b W) (c d : Nat) (hr : Hid (Rep r (fun x => Mem a x ∧ ¬ Mem b x))) {v : Bool} (hv : decide (r = []) = v) : Calls Try.prog 37 #[.slice A a.length c, .slice B b.length d] w (RetV w0 (.bool v) F) := by
  have h1 := ha w hK.out.now
  have h2 := hb w hK.out.now
  subst hv
  exact retV_gives hK (Within_any A B _ c _ d a b r w h1.sp h2.sp h1.wd h2.wd h1.len h2.len hr.out)
theorem Meets_st (hK : Hid (St w0 w F)) (ha : ∀ W, F W → Lst A a W) (hb : ∀ W, F W → Lst B b W) (c d : Nat) (hr : Hid (Rep r (fun x => Mem a x ∧ Mem b x))) {v : Bool} (hv : (!decide (r = [])) = v) : Calls Try.prog 50 #[.slice A a.length c, .slice B b.length d] w (RetV w0 (.bool v) F) := by
  have h1 := ha w hK.out.now
  have h2 := hb w hK.out.now
  subst hv
  exact retV_gives hK (Meets_any A B _ c _ d a b r w h1.sp h2.sp h1.wd h2.wd h1.len h2.len hr.out)
theorem First_st (hK : Hid (St w0 w F)) (ha : ∀ W, F W → Lst A a W) (c : Nat) (hr : Hid (Rep r (Mem a))) {x : Int} {v : Bool} (hx : optD (nthS r 0) = x) (hv : optB (nthS r 0) = v) : Calls Try.prog 81 #[.slice A a.length c] w (RetV w0 (.tuple #[.int .i64 x, .bool v]) F) := by
  have h1 := ha w hK.out.now
  subst hx; subst hv
  exact retV_gives hK (First_any A _ c a r w h1.sp h1.wd h1.len hr.out)
theorem Last_st (hK : Hid (St w0 w F)) (ha : ∀ W, F W → Lst A a W) (c : Nat) (hr : Hid (Rep r (Mem a))) {x : Int} {v : Bool} (hx : optD (nthS r (cnt r - 1)) = x) (hv : optB (nthS r (cnt r - 1)) = v) : Calls Try.prog 91 #[.slice A a.length c] w (RetV w0 (.tuple #[.int .i64 x, .bool v]) F) := by
  have h1 := ha w hK.out.now
  subst hx; subst hv
  exact retV_gives hK (Last_any A _ c a r w h1.sp h1.wd h1.len hr.out)
theorem rAt_st (hK : Hid (St w0 w F)) (ha : ∀ W, F W → Lst A a W) (hn : a.length < 1048576) (c : Nat) (hr : Hid (Rep r (Mem a))) {i : Int} (hi : i ≤ 9223372036854775807) {x : Int} {v : Bool} (hx : optD (nthI r i) = x) (hv : optB (nthI r i) = v) : Calls Try.prog 48 #[.slice A a.length c, .int .i64 i] w (RetV w0 (.tuple #[.int .i64 x, .bool v]) F) := by
  have h1 := ha w hK.out.now
  subst hx; subst hv
  exact retV_gives hK (rAt_any A _ c a r i w h1.sp h1.wd hn hr.out hi)
theorem rCount_st (hK : Hid (St w0 w F)) (ha : ∀ W, F W → Lst A a W) (hn : a.length < 1048576) (c : Nat) (hr : Hid (Rep r (Mem a))) : Calls Try.prog 35 #[.slice A a.length c] w (RetV w0 (.int .i64 (cnt r)) F) := by
  have h1 := ha w hK.out.now
  exact retV_gives hK (rCount_any A _ c a r w h1.sp h1.wd hn hr.out)
end

/-- a list of one span that is written out -/
theorem lst_lit {w : World} (p : Sp) (hp : SpW [p]) : ∀ W, Below (w.alloc (.cells #[.int .i64 p.1, .int .i64 p.2] 34)).heap.size (w.alloc (.cells #[.int .i64 p.1, .int .i64 p.2] 34)) W → Lst (some ⟨w.heap.size, 0, none⟩) [p] W :=
  fun W hW => ⟨(spans_lit1 w p _).below hW, hp, by simp⟩
theorem St.lit {w0 w : World} {F : World → Prop} (hK : Hid (St w0 w F)) (p : Sp) (hp : SpW [p]) : Hid (St w0 (w.alloc (.cells #[.int .i64 p.1, .int .i64 p.2] 34)) (fun W => Lst (some ⟨w.heap.size, 0, none⟩) [p] W ∧ F W)) :=
  Lib.hid (hK.out.add ((Below.refl _ _).alloc (Nat.le_refl _) _) (lst_lit p hp))
theorem nthI_last {r : List Sp} (hr : Plain r) : nthI r (cnt r - 1) = nthS r (cnt r - 1) := by
  unfold nthI
  split
  · rcases PlainF.cnt_pos hr with rfl | h
    · rfl
    · omega
  · rfl
theorem asks_ex {r : List Sp} (hr : Plain r) : ∃ x0 x1 s, Hid (optD (nthS r 0) = x0) ∧ Hid (optB (nthS r 0) = s) ∧ Hid (optD (nthS r (cnt r - 1)) = x1) ∧ Hid (optB (nthS r (cnt r - 1)) = s) ∧ Hid (decide (0 < cnt r) = s) := by
  refine ⟨_, _, optB (nthS r 0), rfl, rfl, rfl, ?_, ?_⟩
  · rcases last_cases r with rfl | ⟨m, q, rfl⟩
    · rfl
    · unfold Hid
      rw [nthS_last hr]
      cases m with
      | nil => rw [List.nil_append] at *; rw [nthS_first hr]; rfl
      | cons p m => rw [List.cons_append] at *; rw [nthS_first hr]; rfl
  · rcases r with _ | ⟨p, l⟩
    · rfl
    · unfold Hid
      rw [nthS_first hr]
      rcases PlainF.cnt_pos hr with h | h
      · cases h
      · simp [optB, h]
end Go.Proofs.Ytdaagdohhnhbdaa
