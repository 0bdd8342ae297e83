/- Contract of word.Of: of any text the runes that a range over it tells. Condition: the text is shorter than 2^40 bytes. -/
import Derived.Test.YtbllbifkckipdaaFront
namespace Go.Proofs.Ytbllbifkckipdaa
open Go.RowKit
set_option linter.unusedVariables false

/-- the runes of a text from a place on, each with its width -/
def decs (s : ByteArray) : Nat → Nat → List (Nat × Nat)
  | 0, _ => []
  | f + 1, pos => if pos < s.size then Utf8.decode s pos :: decs s f (pos + (Utf8.decode s pos).2) else []
theorem width_pos (s : ByteArray) (pos : Nat) : 1 ≤ (Utf8.decode s pos).2 := by
  simp only [Utf8.decode]
  repeat' split
  all_goals simp
theorem decs_fuel (s : ByteArray) (f g pos : Nat) (hf : s.size - pos ≤ f) (hg : s.size - pos ≤ g) : decs s f pos = decs s g pos := by
  induction f generalizing g pos with
  | zero =>
    cases g with
    | zero => rfl
    | succ g => unfold decs; rw [if_neg (by omega)]
  | succ f ih =>
    cases g with
    | zero => unfold decs; rw [if_neg (by omega)]
    | succ g =>
      unfold decs
      have := width_pos s pos
      split
      · rw [ih g _ (by omega) (by omega)]
      · rfl
def runesAt (s : ByteArray) (pos : Nat) : List (Nat × Nat) := decs s (s.size - pos) pos
theorem runesAt_step (s : ByteArray) (pos : Nat) (h : pos < s.size) : runesAt s pos = Utf8.decode s pos :: runesAt s (pos + (Utf8.decode s pos).2) := by
  have := width_pos s pos
  unfold runesAt
  rw [decs_fuel s _ (s.size - pos - 1 + 1) pos (Nat.le_refl _) (by omega)]
  show (if pos < s.size then _ else _) = _
  rw [if_pos h, decs_fuel s (s.size - pos - 1) (s.size - (pos + (Utf8.decode s pos).2)) _ (by omega) (Nat.le_refl _)]
theorem runesAt_end (s : ByteArray) (pos : Nat) (h : ¬ pos < s.size) : runesAt s pos = [] := by
  unfold runesAt
  rw [show s.size - pos = 0 from by omega]; rfl
theorem runesAt_length (s : ByteArray) (n pos : Nat) (h : s.size - pos ≤ n) : (runesAt s pos).length ≤ s.size - pos := by
  induction n generalizing pos with
  | zero => rw [runesAt_end s pos (by omega)]; simp
  | succ n ih =>
    by_cases hp : pos < s.size
    · rw [runesAt_step s pos hp]
      have := width_pos s pos
      have := ih (pos + (Utf8.decode s pos).2) (by omega)
      simp; omega
    · rw [runesAt_end s pos hp]; simp
def runes (s : ByteArray) : List Int := (runesAt s 0).map fun d => (d.1 : Int)

theorem info21 : (Try.prog.info? 21).map (fun i => (i.zero, i.size, i.bytes)) = some (some (.int .i32 0), 1, 4) := by kernel_rfl

/-- what a call returns that hands out a new slice of runes -/
def NewInts (k : IntKind) (w : World) (xs : List Int) (e : Ending) (w' : World) : Prop :=
  ∃ A n c, e = .returned (.slice A n c) ∧ Ints k w' A n xs ∧ n ≤ c ∧ c ≤ 9223372036854775807 ∧ Below w.heap.size w w'
theorem NewInts.of_own {k : IntKind} {w w' : World} {xs : List Int} {v : Value} {n base : Nat} {t : TypeId} (h : w'.ownsRow base t 1 v n (xs.map (Value.int k))) (hb : Below w.heap.size w w') : NewInts k w xs (.returned v) w' := by
  rcases id h with ⟨h1, ⟨rfl, rfl⟩ | ⟨g, cap, cur, rfl, _, _, hn, hc, _⟩⟩
  · exact ⟨none, 0, 0, rfl, Sl.of_own h, by omega, by omega, hb⟩
  · exact ⟨_, n, cap, rfl, Sl.of_own h, hn, hc, hb⟩

theorem ownsRow_iterAt {w : World} {base : Nat} {e : TypeId} {size : Nat} {v : Value} {n : Nat} {xs : List Value} (h : w.ownsRow base e size v n xs) (k : Nat) (hk : k < base) (s : ByteArray) (pos : Nat) : (w.iterAt k s pos).ownsRow base e size v n xs := by
  refine ⟨h.1, ?_⟩
  rcases h.2 with hn | ⟨g, cap, cur, rfl, hb, hgg, rest⟩
  · exact .inl hn
  · exact .inr ⟨g, cap, cur, rfl, hb, (Lib.iterAt_other w k g s pos (by omega)).trans hgg, rest⟩

set_option maxHeartbeats 1000000 in
theorem Of_any (s : ByteArray) (w : World) (hs : s.size ≤ 1099511627775) :
    Calls Try.prog 19 #[.string s] w (NewInts .i32 w (runes s)) := by
  obtain ⟨i0, hi, hz0, hz1, hz2⟩ := info_parts info21
  have hk0 : (w.iter s 0).heap[w.heap.size]? = some (.stringIter s 0) := World.iter_heap w s 0
  have hb0 : Below w.heap.size w (w.iter s 0) := (Below.refl _ w).alloc (Nat.le_refl _) _
  have hsz0 : w.heap.size + 1 ≤ (w.iter s 0).heap.size := by simp [World.iter]
  have hlen : (runes s).length ≤ s.size := by have := runesAt_length s (s.size - 0) 0 (Nat.le_refl _); simpa [runes] using this
  go_enter Try.func19, Try.ntmps19
  go_wp2_with fail
  go_loopw [3] (fun v wr => ∃ (pos : Nat) (acc : List Int), wr.heap[w.heap.size]? = some (.stringIter s pos) ∧ w.heap.size + 1 ≤ wr.heap.size ∧
      wr.ownsRow (w.heap.size + 1) 21 1 v acc.length (acc.map (Value.int .i32)) ∧ Below w.heap.size w wr ∧ Hid (acc ++ (runesAt s pos).map (fun d => (d.1 : Int)) = runes s))
    (fun _ wr => s.size - wr.iterPos w.heap.size)
  case atStart => exact ⟨0, [], hk0, hsz0, World.ownsRow_nil _ _ _ _, hb0, rfl⟩
  case round =>
    obtain ⟨pos, acc, hk, hsz, hown, hbel, heq⟩ := hrel
    clear hk0 hb0 hsz0
    have hal : acc.length ≤ s.size := by have := congrArg List.length heq.out; rw [List.length_append] at this; omega
    clear hlen
    have hmu : wr.iterPos w.heap.size = pos := by simp [World.iterPos, hk]
    by_cases hp : pos < s.size
    · have hnext : ∀ ty, (Instr.next (.pointer (some ⟨w.heap.size, 0, none⟩)) true ty).run Try.prog wr = _ := fun ty => Lib.run_next_any_at wr w.heap.size s pos ty hk hp
      have hk1 := Lib.iterAt_heap wr w.heap.size s pos (pos + (Utf8.decode s pos).2) hk
      have hown1 := ownsRow_iterAt hown w.heap.size (by omega) s (pos + (Utf8.decode s pos).2)
      have hb1 : Below w.heap.size w (wr.iterAt w.heap.size s (pos + (Utf8.decode s pos).2)) := Lib.below_iterAt hbel (Nat.le_refl _) s _
      have hsz1 : w.heap.size + 1 ≤ (wr.iterAt w.heap.size s (pos + (Utf8.decode s pos).2)).heap.size := by rw [Lib.iterAt_size]; exact hsz
      have hw := width_pos s pos
      have HE : Hid (acc ++ ((Utf8.decode s pos).1 : Int) :: (runesAt s (pos + (Utf8.decode s pos).2)).map (fun d => (d.1 : Int)) = runes s) := by
        have := heq.out; rw [runesAt_step s pos hp] at this; exact this
      generalize wr.iterAt w.heap.size s (pos + (Utf8.decode s pos).2) = W1 at *
      generalize (Utf8.decode s pos).2 = wd at *
      generalize (Utf8.decode s pos).1 = r at *
      have HK := Lib.hid hk1
      have HM := Lib.hid hmu
      clear hk1 hk hmu hown
      go_wp2_with (at_builtin; go_must (refine wpList_push (w0 := W1) rfl _ _ 23 rfl (w.heap.size + 1) 21 i0 (.int .i32 0) 1 4 Try.underlying23 hi hz0 hz1 hz2 rfl (by decide) hown1 rfl [.int .i32 (r : Int)] _ rfl rfl ?c1 ?c2 ?c3 hsz1 ?c4))
      case c1 => intro u hu; simp at hu; subst hu; rfl
      case c2 => omega
      case c3 => omega
      case c4 =>
      intro v' w2 hown2 hg2 _
      have hk2 : w2.heap[w.heap.size]? = some (.stringIter s (pos + wd)) := by
        rw [hg2.block w.heap.size (by simp; omega) (fun e => by have := hown1.lt _ e.symm; omega), Below.heap_alloc _ _ _ (by omega)]
        exact HK.out
      have hb2 := below_pushed hb1 hown1 (by omega) (by omega) hg2
      have hs2 : w.heap.size + 1 ≤ w2.heap.size := by have := hg2.size; simp at this; omega
      have HK2 := Lib.hid hk2
      clear hk2 hg2 hown1 hb1
      go_wp2_with fail
      go_roundw
      case rel => exact ⟨pos + wd, acc ++ [(r : Int)], HK2.out, hs2, by simpa using hown2, hb2, by unfold Hid; rw [List.append_assoc]; exact HE.out⟩
      case measure =>
        have : w2.iterPos w.heap.size = pos + wd := by simp [World.iterPos, HK2.out]
        rw [HM.out, this]
        omega
    · have hnext : ∀ ty, (Instr.next (.pointer (some ⟨w.heap.size, 0, none⟩)) true ty).run Try.prog wr = _ := fun ty => Lib.run_next_end_at wr w.heap.size s pos ty hk hp
      have HR : acc = runes s := by have := heq.out; rw [runesAt_end s pos hp] at this; simpa using this
      have HR' := Lib.hid HR
      clear HR
      go_wp2_with fail
      go_ret
      exact NewInts.of_own (HR'.out ▸ hown) hbel
end Go.Proofs.Ytbllbifkckipdaa
