/- The contracts of layer 3 said of a walk's state; the law's own helpers. Condition: the slices at hand are known. -/
import Derived.Test.YtdaagdohhnhbdaaPre
import Derived.Test.YtdaagdohhnhbdaaRefImage
namespace Go.Proofs.Ytdaagdohhnhbdaa
open Go.RowKit Go.Shelf
set_option linter.unusedVariables false
set_option linter.unusedSimpArgs false

def vOk (d t u x : Int) : Bool := bitsB d t u && decide (0 ≤ x) && decide (x ≤ 2097151)
def vNum (d t u x : Int) : Int := if vOk d t u x then pval d t u x else 0
theorem vTup (d t u x : Int) : (if bitsB d t u = true ∧ 0 ≤ x ∧ x ≤ 2097151 then Value.tuple #[.int .i64 (pval d t u x), .bool true] else .tuple #[.int .i64 0, .bool false]) = .tuple #[.int .i64 (vNum d t u x), .bool (vOk d t u x)] := by
  unfold vNum
  split
  · rename_i h
    have : vOk d t u x = true := by simp [vOk, h.1, h.2.1, h.2.2]
    rw [this]; simp
  · rename_i h
    have : vOk d t u x = false := by
      rw [← Bool.not_eq_true]
      intro e
      simp [vOk, and_assoc] at e
      exact h e
    rw [this]; simp
theorem vOk_iff (d t u x : Int) : vOk d t u x = true ↔ (bitsB d t u = true ∧ 0 ≤ x ∧ x ≤ 2097151) := by simp [vOk, and_assoc]

section
variable {w0 w : World} {F : World → Prop} {A B : Option Addr} {a0 b0 r : List Sp}
theorem Value_st (hK : Hid (St w0 w F)) (a d t u x : Int) {v : Int} {ok : Bool} (h : vNum d t u x = v) (h' : vOk d t u x = ok) : Calls Try.prog 26 #[.agg #[.int .i64 a, .int .i64 d, .int .i64 t, .int .i64 u], .int .i64 x] w (RetV w0 (.tuple #[.int .i64 v, .bool ok]) F) := by
  subst h; subst h'
  have := Value_any a d t u x w
  rw [vTup] at this
  exact retV_gives hK this
theorem rValue_st (hK : Hid (St w0 w F)) (a d t u x : Int) {v : Int} {ok : Bool} (h : vNum d t u x = v) (h' : vOk d t u x = ok) : Calls Try.prog 30 #[.agg #[.int .i64 a, .int .i64 d, .int .i64 t, .int .i64 u], .int .i64 x] w (RetV w0 (.tuple #[.int .i64 v, .bool ok]) F) := by
  subst h; subst h'
  have := rValue_any a d t u x w
  rw [vTup] at this
  exact retV_gives hK this
set_option maxRecDepth 100000 in
set_option maxHeartbeats 4000000 in
theorem PSame_st (hK : Hid (St w0 w F)) (ha : ∀ W, F W → Lst A a0 W) (c : Nat) (a d t u : Int) (hr : Hid (Rep r (ImgS d t u a0))) {v : Bool} (hv : decide (cnt r ≤ 1) = v) :
    Calls Try.prog 34 #[.agg #[.int .i64 a, .int .i64 d, .int .i64 t, .int .i64 u], .slice A a0.length c] w (RetV w0 (.bool v) F) := by
  have HK := St.pbox hK a d t u
  have HV := Lib.hid hv
  obtain ⟨hp0, hp1, hp2, hp3⟩ := HK.out.now.1
  clear hv
  go_enter Try.func34, Try.ntmps34
  go_wp2_with fail
  refine (Image_st HK (fun _ h => ha _ h.2) _ a d t u hr).mono ?_
  rintro e w1 ⟨A1, c1, rfl, HK⟩
  clear hp0 hp1 hp2 hp3
  go_wp2_with fail
  refine (Count_st HK (fun _ h => h.1) _ (Lib.hid (Rep.self hr.out.1))).mono ?_
  rintro e w2 ⟨rfl, HK⟩
  go_wp2_with fail
  go_ret
  exact ⟨ret_bool HV.out, Lib.hid (HK.out.weaken fun W h => h.2.2)⟩

def big3 (n m : Nat) : Bool := decide (50 < n) || decide (8 < m)
theorem big3_no {n m : Nat} (h : big3 n m = false) : n ≤ 50 ∧ m ≤ 8 := by simpa [big3] using h
set_option maxHeartbeats 4000000 in
theorem great03_st (hK : Hid (St w0 w F)) (n m c1 c2 : Nat) {v : Bool} (hv : big3 n m = v) : Calls Try.prog 21 #[.slice A n c1, .slice B m c2] w (RetV w0 (.bool v) F) := by
  have HV := Lib.hid hv
  have e : big3 n m = (decide (50 < n) || decide (8 < m)) := rfl
  rw [e] at HV
  clear hv
  by_cases h1 : 50 < n <;> by_cases h2 : 8 < m
  all_goals
    go_enter Try.func21, Try.ntmps21
    go_wp2_with fail
    go_ret
    exact ⟨ret_bool (by rw [← HV.out]; simp [h1, h2] <;> omega), hK⟩

theorem rep_awI : Rep [(0, 1), (3, 3)] (ImgS 0 2 0 [(3, 5)]) := by
  refine ⟨by simp [Plain, PlainF], fun v => ?_⟩
  have e : ∀ x, pval 0 2 0 x = x % 4 := fun x => by
    show x / 1 % 4 * 1 = x % 4
    rw [Int.ediv_one, Int.mul_one]
  have hb : bitsB 0 2 0 = true := by decide
  simp only [ImgS, InS, Mem, or_false, e, hb, true_and]
  constructor
  · intro h
    have : v = 0 ∨ v = 1 ∨ v = 3 := by omega
    rcases this with rfl | rfl | rfl
    · exact ⟨4, by omega, by omega, by omega, by omega⟩
    · exact ⟨5, by omega, by omega, by omega, by omega⟩
    · exact ⟨3, by omega, by omega, by omega, by omega⟩
  · rintro ⟨x, h1, h2, h3, h4⟩
    omega
theorem rep_awP : Rep [(3, 3), (7, 7)] (PreS 0 2 0 [(0, 9)] [(3, 3)]) := by
  refine ⟨by simp [Plain, PlainF], fun v => ?_⟩
  have e : pval 0 2 0 v = v % 4 := by
    show v / 1 % 4 * 1 = v % 4
    rw [Int.ediv_one, Int.mul_one]
  have hb : bitsB 0 2 0 = true := by decide
  simp only [PreS, InS, Mem, or_false, e, hb, true_and]
  omega
set_option maxRecDepth 100000 in
set_option maxHeartbeats 8000000 in
theorem awake03_st (hK : Hid (St w0 w F)) : Calls Try.prog 22 #[] w (RetV w0 (.bool true) F) := by
  have HI := Lib.hid rep_awI
  have HP := Lib.hid rep_awP
  have HK := hK
  go_enter Try.func22, Try.ntmps22
  go_wp2_with fail
  refine (Value_st HK 0 6 6 8 8191 (v := 16128) (ok := true) (by decide) (by decide)).mono ?_
  rintro e w1 ⟨rfl, HK⟩
  go_wp2_with fail
  have HK := St.lit HK (3, 5) (by intro p hp; simp at hp; subst hp; simp)
  refine (Image_st HK (fun _ h => h.1) _ 0 0 2 0 HI).mono ?_
  rintro e w2 ⟨A2, c2, rfl, HK⟩
  go_wp2_with fail
  have HK := St.lit (St.lit HK (0, 9) (by intro p hp; simp at hp; subst hp; simp)) (3, 3) (by intro p hp; simp at hp; subst hp; simp)
  have hsz : (w2.alloc (.cells #[.int .i64 (0, 9).1, .int .i64 (0, 9).2] 34)).heap.size = w2.heap.size + 1 := by simp
  rw [hsz] at HK
  refine (Pre_st HK (fun _ h => h.2.1) (fun _ h => h.1) _ _ 0 0 2 0 HP).mono ?_
  rintro e w3 ⟨A3, c3, rfl, HK⟩
  obtain ⟨g3, off3, p3, rfl, hp3, hc1, hc2⟩ := HK.out.now.1.sp.at_ (j := 1) (by decide)
  obtain ⟨g2, off2, p2, rfl, hp2, hd1, hd2⟩ := HK.out.now.2.2.2.1.sp.at_ (j := 1) (by decide)
  cases hp3
  cases hp2
  have hq1 := eqlSpan (3, 3) (3, 3) true rfl
  have hq2 := eqlSpan (7, 7) (7, 7) true rfl
  simp only at hc1 hc2 hd1 hd2
  go_wp2_with fail
  go_ret
  exact ⟨ret_bool (by decide), Lib.hid (HK.out.weaken fun W h => h.2.2.2.2.2)⟩
end
end Go.Proofs.Ytdaagdohhnhbdaa
