/- umlautlaw03.PartValues: the walk. Of any part whether it is right, and of any number its value, or that there is none. Condition: none beyond the row's own. -/
import Derived.Test.YtdaagdohhnhbdaaLawPartWhole
import Derived.Deep.RegionHeld3
namespace Go.Proofs.Ytdaagdohhnhbdaa
open Go.RowKit Go.Shelf
set_option linter.unusedVariables false
set_option linter.unusedSimpArgs false
attribute [local go_sem] Oper.semAt_some

theorem guardPart : Try.prog.eqGuardType Try.prog.depth 23 = false := by kernel_rfl
theorem eqlPart (a b c d : Int) (w : World) :
    (binOp .eql 23 (.agg #[.int .i64 a, .int .i64 b, .int .i64 c, .int .i64 d]) (.agg #[.int .i64 a, .int .i64 b, .int .i64 c, .int .i64 d])).run Try.prog w = .ok (.bool true) w := by
  have u3 := Try.underlying3
  have a3 := Try.isAgg3
  have z3 := Try.sizeOf3
  have hS : Try.prog.underlying 23 = some (.struct (Try.prog.fieldsOf 23)) := by kernel_rfl
  have hp : Try.prog.stoodInHeld 23 = false := by kernel_rfl
  rw [run_eql_struct, show (10000 : Nat) = 9999 + 1 from rfl, run_equalIn_agg w 9999 23 _ _ hS hp]
  simp only [Program.fieldsOf, Try.underlying23]
  go_simp

theorem Right_st {w0 w : World} {F : World → Prop} (hK : Hid (St w0 w F)) (a d t u n : Int) {v : Bool} (hv : rightB a d t u n = v) : Calls Try.prog 31 #[.agg #[.int .i64 a, .int .i64 d, .int .i64 t, .int .i64 u], .int .i64 n] w (RetV w0 (.bool v) F) := by
  subst hv; exact retV_gives hK (Right_any a d t u n w)
theorem rRight_st {w0 w : World} {F : World → Prop} (hK : Hid (St w0 w F)) (a d t u n : Int) {v : Bool} (hv : rightB a d t u n = v) : Calls Try.prog 32 #[.agg #[.int .i64 a, .int .i64 d, .int .i64 t, .int .i64 u], .int .i64 n] w (RetV w0 (.bool v) F) := by
  subst hv; exact retV_gives hK (rRight_any a d t u n w)

set_option maxRecDepth 100000 in
set_option maxHeartbeats 16000000 in
theorem PartValues_walk (p0 p1 p2 p3 : Int) (n x : Int) (w : World)
    (wp : (Lit.int .i64 p0).wf = true ∧ (Lit.int .i64 p1).wf = true ∧ (Lit.int .i64 p2).wf = true ∧ (Lit.int .i64 p3).wf = true) (wn : (Lit.int .i64 n).wf = true) (wx : (Lit.int .i64 x).wf = true) :
    Calls Try.prog 6 #[.agg #[.int .i64 p0, .int .i64 p1, .int .i64 p2, .int .i64 p3], .int .i64 n, .int .i64 x] w fun e w' => e = .returned (.bool true) ∧ Below w.heap.size w w' := by
  clear wp wx wn
  have HK : Hid (St w w (fun W => True)) := Lib.hid (St.start (fun W hW => trivial))
  have HK := St.pbox HK p0 p1 p2 p3
  obtain ⟨v, hv⟩ : ∃ v, vNum p1 p2 p3 x = v := ⟨_, rfl⟩
  have HV := Lib.hid hv
  obtain ⟨ok, hok⟩ : ∃ b, vOk p1 p2 p3 x = b := ⟨_, rfl⟩
  have HOK := Lib.hid hok
  obtain ⟨rb, hrb⟩ : ∃ b, rightB p0 p1 p2 p3 n = b := ⟨_, rfl⟩
  have HRB := Lib.hid hrb
  have heq := eqlPart n 0 21 0
  have hvv : (v == v) = true := by simp
  have hbb : (ok == ok) = true := by simp
  have hrr : (rb == rb) = true := by simp
  clear hv hok hrb
  obtain ⟨hp0, hp1, hp2, hp3⟩ := HK.out.now.1
  go_enter Try.func6, Try.ntmps6
  go_wp2_with fail
  refine (Value_st HK p0 p1 p2 p3 x HV.out HOK.out).mono ?_
  rintro e w1 ⟨rfl, HK⟩
  clear hp0 hp1 hp2 hp3
  obtain ⟨hp0, hp1, hp2, hp3⟩ := HK.out.now.1
  go_wp2_with fail
  refine (rValue_st HK p0 p1 p2 p3 x HV.out HOK.out).mono ?_
  rintro e w2 ⟨rfl, HK⟩
  clear hp0 hp1 hp2 hp3
  obtain ⟨hp0, hp1, hp2, hp3⟩ := HK.out.now.1
  go_wp2_with fail
  have HK := St.hdrewN HK 1
  go_region_held3 (fun W => W.cell? ⟨w.heap.size, 0, none⟩ = some (.int .i64 p0) ∧ W.cell? ⟨w.heap.size, 1, none⟩ = some (.int .i64 p1) ∧ W.cell? ⟨w.heap.size, 2, none⟩ = some (.int .i64 p2) ∧ W.cell? ⟨w.heap.size, 3, none⟩ = some (.int .i64 p3))
    (first | exact HK.out.now.1 | go_keep)
    ((first
      | (go_at_call 31; refine (Right_st HK p0 p1 p2 p3 n HRB.out).mono ?_; rintro e w3 ⟨rfl, HK⟩)
      | (go_at_call 32; refine (rRight_st HK p0 p1 p2 p3 n HRB.out).mono ?_; rintro e w4 ⟨rfl, HK⟩)
      | (go_at_call 28; refine (Whole_st HK n).mono ?_; rintro e w5 ⟨rfl, HK⟩)
      | (go_at_call 22; refine (awake03_st HK).mono ?_; rintro e w6 ⟨rfl, HK⟩)))
  go_wp2_with fail
  go_ret
  exact ⟨rfl, HK.out.2⟩
end Go.Proofs.Ytdaagdohhnhbdaa
