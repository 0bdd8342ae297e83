/- Contract of umlautref02.Bytes: a scalar's bytes, none of what is none. Condition: the symbol is an int32. -/
import Derived.Test.YtbllbifkckipdaaConv
namespace Go.Proofs.Ytbllbifkckipdaa
open Go.RowKit
set_option linter.unusedVariables false

/-- a scalar's bytes -/
def rbytes (x : Int) : List Int :=
  if inB 2 x = false then [] else if x < 128 then [x] else if x < 2048 then [192 + x / 64, 128 + x % 64]
  else if x < 65536 then [224 + x / 4096, 128 + x / 64 % 64, 128 + x % 64] else [240 + x / 262144, 128 + x / 4096 % 64, 128 + x / 64 % 64, 128 + x % 64]
theorem NewInts.lit {k : IntKind} {w : World} {l : List Int} (hl : l.length ≤ 1000) (t : TypeId) (n : Nat) (hn : n = l.length) (cs : Array Value) (hcs : cs.toList = l.map (Value.int k)) :
    NewInts k w l (.returned (.slice (some ⟨w.heap.size, 0, none⟩) n n)) (w.alloc (.cells cs t)) := by
  subst hn
  refine ⟨_, _, _, rfl, ⟨by simp, fun _ => ⟨_, _, rfl, fun j u hu => ?_⟩⟩, Nat.le_refl _, by omega, (Below.refl _ w).alloc (Nat.le_refl _) _⟩
  have hb : (w.alloc (.cells cs t)).heap[w.heap.size]? = some (.cells cs t (0, 0)) := heap_alloc_new w _
  simp only [World.cell?, hb]
  rw [← hcs] at hu
  simpa using hu
theorem NewInts.nil_ (k : IntKind) (w : World) : NewInts k w [] (.returned (.slice none 0 0)) w := ⟨_, _, _, rfl, Sl.nil_ _ _ _, Nat.le_refl _, by omega, Below.refl _ _⟩
theorem inB2 {x : Int} (h : inB 2 x = true) : 0 ≤ x ∧ x ≤ 1114111 := by simp [inB] at h; omega
set_option maxHeartbeats 1000000 in
theorem rBytes_any (x : Int) (w : World) : Calls Try.prog 20 #[.int .i32 x] w (NewInts .u8 w (rbytes x)) := by
  unfold rbytes
  rcases hb : inB 2 x with _ | _
  · rw [if_pos rfl]
    have HI := pure_of (rIn_any 2 x) (congrArg Value.bool hb)
    clear hb
    go_enter Try.func20, Try.ntmps20
    go_wp2_with (go_at_call 30; refine (HI.out _).mono ?_; rintro e w' ⟨rfl, rfl⟩)
    go_ret
    exact NewInts.nil_ _ _
  · rw [if_neg (by simp)]
    obtain ⟨h0, h1⟩ := inB2 hb
    have HI := pure_of (rIn_any 2 x) (congrArg Value.bool hb)
    clear hb
    by_cases g1 : x < 128
    · rw [if_pos g1]
      go_enter Try.func20, Try.ntmps20
      go_wp2_with (go_at_call 30; refine (HI.out _).mono ?_; rintro e w' ⟨rfl, rfl⟩)
      go_ret
      exact NewInts.lit (by simp) _ _ rfl _ rfl
    rw [if_neg g1]
    by_cases g2 : x < 2048
    · rw [if_pos g2]
      go_enter Try.func20, Try.ntmps20
      go_wp2_with (go_at_call 30; refine (HI.out _).mono ?_; rintro e w' ⟨rfl, rfl⟩)
      go_ret
      exact NewInts.lit (by simp) _ _ rfl _ rfl
    rw [if_neg g2]
    by_cases g3 : x < 65536
    · rw [if_pos g3]
      go_enter Try.func20, Try.ntmps20
      go_wp2_with (go_at_call 30; refine (HI.out _).mono ?_; rintro e w' ⟨rfl, rfl⟩)
      go_ret
      exact NewInts.lit (by simp) _ _ rfl _ rfl
    rw [if_neg g3]
    go_enter Try.func20, Try.ntmps20
    go_wp2_with (go_at_call 30; refine (HI.out _).mono ?_; rintro e w' ⟨rfl, rfl⟩)
    go_ret
    exact NewInts.lit (by simp) _ _ rfl _ rfl
theorem rbytes_small (x : Int) : ∀ y ∈ rbytes x, 0 ≤ y ∧ y ≤ 255 := by
  unfold rbytes
  intro y hy
  rcases hb : inB 2 x with _ | _
  · rw [hb] at hy; simp at hy
  · rw [hb] at hy
    obtain ⟨h0, h1⟩ := inB2 hb
    simp only [Bool.true_eq_false, if_false] at hy
    repeat' split at hy
    all_goals
      simp only [List.mem_cons, List.not_mem_nil, or_false] at hy
      omega
end Go.Proofs.Ytbllbifkckipdaa
