/- Contracts of slices.Grow of nil and of slices.Concat of two slices of rules. Condition: fewer than 2^38 rules each. Contract of subset.Blocks. Condition: both descriptions are known. Plain law: the blocks of descriptions that read so many a; what they are as descriptions by blocks. No program in sight. Condition: none. Plain facts on what parting by one set after another makes: each number of the whole is in one block; a block's numbers are told apart by no set. No program in sight. Condition: none. The key's law of a map keyed by two sets (strings). Condition: the strings are short. Contract of slices.Reverse of runes of the call's own. Condition: fewer than 2^30. Contract of subset.way: the word of a pair. Condition: the pairs are known. Plain law of subset.Same's list and map in memory against the plain list. Condition: none. Plain law: the bytes parted by any family make 256 blocks at most, and each byte has one. No program in sight. Condition: none. The maker's nodes: one more is laid; how many rules and finals have come. Condition: the maker is known. A region that draws its order and in which several makes stand side by side: they come in whatever order. No function of the program in sight. Condition: none. The maker beside blocks that are written meanwhile (a node's record and its row of numbers); the table that it holds. Condition: the maker is known. Words for subset.Same's walk: two sides on their way into their boxes, in whatever order blocks come; the least numbers of blocks. Condition: none. What subset.Same answers to two descriptions that read so many a. Condition: each has at most 1000 states, and one of them a rule. -/
import Derived.Test.YtlmkokeapbleoaaR04
import Derived.Test.YtlmkokeapbleoaaShelfR
import Derived.Test.YtlmkokeapbleoaaR11
import Derived.Test.YtlmkokeapbleoaaR09
import Derived.Test.YtlmkokeapbleoaaR10
import Derived.Test.YtlmkokeapbleoaaR05
import Derived.Test.YtlmkokeapbleoaaR12
import Derived.Test.YtlmkokeapbleoaaR01
import Derived.Deep.QuietTactic
import Derived.Shelf.RegionOpenPlain
import Derived.Test.YtlmkokeapbleoaaR08
import Derived.Test.YtlmkokeapbleoaaR07
import Derived.Laws.Tables
import Derived.Great.Ranges
set_option maxRecDepth 100000
set_option maxHeartbeats 64000000
set_option linter.unusedVariables false
set_option linter.unusedSimpArgs false
section
namespace Go.Proofs.Ytlmkokeapbleoaa
open Go.RowKit
theorem infoRule : (Try.prog.info? 42).map (fun i => (i.zero, i.size, i.bytes)) = some (some (.agg #[.int .i64 0, .int .i64 0, .slice none 0 0, .int .i64 0, .slice none 0 0]), 5, 72) := by kernel_rfl
theorem GrowNilR_any (n : Nat) (hn : n < 1099511627776) (w : World) :
    Calls Try.prog 27 #[.slice none 0 0, .int .i64 n] w fun e w' => ∃ v, e = .returned v ∧ w'.ownsRow w.heap.size 42 5 v 0 [] ∧ Below w.heap.size w w' := by
  obtain ⟨i0, hi, hz0, hz1, hz2⟩ := info_parts infoRule
  by_cases h0 : n = 0
  · subst h0
    refine Calls.mono (Any8.slices_Grow_room Try.growRule none 0 0 0 w (by omega) (by omega) (by omega) (by omega)) ?_
    rintro e w' ⟨rfl, rfl⟩
    exact ⟨_, rfl, World.ownsRow_nil _ _ _ _, Below.refl _ _⟩
  · refine Calls.mono (Any8.slices_Grow_grow Try.growRule i0 _ hi hz0 (by rw [hz1]; decide) none 0 0 n [] w (by omega) (by omega) (by rw [hz2]; omega) (by omega) (by simp) (fun _ => rfl) (fun a h => by cases h)) ?_
    rintro e w' ⟨rfl, rfl⟩
    have hcap := grownCap_le_maxLen w (0 + n) 0 42 (by unfold maxLen; omega)
    have hcg := grownCap_ge w (0 + n) 0 42
    refine ⟨_, rfl, ⟨by simp, .inr ⟨w.heap.size, _, _, rfl, Nat.le_refl _, heap_alloc_new _ _, by omega, hcap, ?_, by simp⟩⟩, ?_⟩
    · have e2 : (Value.agg #[.int .i64 0, .int .i64 0, .slice none 0 0, .int .i64 0, .slice none 0 0]).cells.size = 5 := rfl
      have hcg2 : 0 + n ≤ grownCap w (0 + n) 0 (Try.growRule_ren.t 25) := hcg
      simp only [Array.size_append, size_zeroCells, e2]
      simp only [List.size_toArray, List.length_nil]
      omega
    · exact (below_drewN (Below.refl _ _) 1).alloc (Nat.le_refl _) _
theorem rules_one (l : List RuleI) : ∀ u ∈ l.flatMap ruleC, u.oneCell' = true := by
  intro u hu
  simp only [List.mem_flatMap] at hu
  obtain ⟨p, _, hu⟩ := hu
  simp [ruleC] at hu
  rcases hu with rfl | rfl | rfl | rfl | rfl <;> rfl
theorem ConcatR_any (b : Nat) (A B : Option Addr) (n c m d : Nat) (x y : List RuleI) (w : World) (h : Sl w 5 A n (x.flatMap ruleC)) (h' : Sl w 5 B m (y.flatMap ruleC)) (hn : n < 274877906944) (hm : m < 274877906944)
    (hc0 : w.cell? ⟨b, 0, none⟩ = some (.slice A n c)) (hc1 : w.cell? ⟨b, 1, none⟩ = some (.slice B m d)) :
    Calls Try.prog 16 #[.slice (some ⟨b, 0, none⟩) 2 2] w fun e w' => ∃ v, e = .returned v ∧ w'.ownsRow w.heap.size 42 5 v (n + m) ((x ++ y).flatMap ruleC) ∧ Below w.heap.size w w' := by
  obtain ⟨i0, hi, hz0, hz1, hz2⟩ := info_parts infoRule
  have HX := Lib.hid h
  have HY := Lib.hid h'
  clear h h'
  go_enter Try.func16, Try.ntmps16
  go_wp2_with fail
  go_loop [3, 11] (fun s j => (j = .int .i64 ((0 : Nat) : Int) ∧ s = .int .i64 ((0 : Nat) : Int)) ∨ (j = .int .i64 ((1 : Nat) : Int) ∧ s = .int .i64 (n : Int)) ∨ (j = .int .i64 ((2 : Nat) : Int) ∧ s = .int .i64 ((n + m : Nat) : Int))) (fun _ j => 2 - (intOf j).toNat)
  case atStart => exact .inl ⟨rfl, rfl⟩
  case round =>
  rcases hrel with ⟨rfl, rfl⟩ | ⟨rfl, rfl⟩ | ⟨rfl, rfl⟩
  · go_wp2_with fail
    go_round
    case rel => exact .inr (.inl ⟨rfl, by go_num⟩)
    case measure => simp [intOf]
  · go_wp2_with fail
    go_round
    case rel => exact .inr (.inr ⟨rfl, by go_num⟩)
    case measure => simp [intOf]
  · have HG := Lib.hid (GrowNilR_any (n + m) (by omega) w)
    go_wp2_with fail
    refine HG.out.mono ?_
    rintro e w1 ⟨v, rfl, hown, hbel⟩
    have HO := Lib.hid hown
    have HB := Lib.hid hbel
    clear hown hbel
    go_wp2_with fail
    have hlen := Lib.hid (show ((x ++ y).flatMap ruleC).length = (n + m) * 5 by rw [List.flatMap_append, List.length_append, HX.out.1, HY.out.1]; omega)
    go_loopw [6, 27] (fun v j wr => (j = .int .i64 ((0 : Nat) : Int) ∧ wr.ownsRow w.heap.size 42 5 v 0 [] ∧ Below w.heap.size w wr) ∨ (j = .int .i64 ((1 : Nat) : Int) ∧ wr.ownsRow w.heap.size 42 5 v n (x.flatMap ruleC) ∧ Below w.heap.size w wr) ∨ (j = .int .i64 ((2 : Nat) : Int) ∧ wr.ownsRow w.heap.size 42 5 v (n + m) ((x ++ y).flatMap ruleC) ∧ Below w.heap.size w wr)) (fun _ j _ => 2 - (intOf j).toNat)
    case atStart => exact .inl ⟨rfl, HO.out, HB.out⟩
    case round =>
    rcases hrel with ⟨rfl, ho, hb⟩ | ⟨rfl, ho, hb⟩ | ⟨rfl, ho, hb⟩
    · have hd0 := (hb.cell (lt_of_cell hc0)).trans hc0
      have HO2 := Lib.hid ho
      have HB2 := Lib.hid hb
      have HSX := Lib.hid (Sl.below (B := w.heap.size) HX.out hb)
      obtain ⟨av, cv, hv⟩ := own_shape HO2.out
      subst hv
      clear ho hb
      go_wp2_with (at_builtin; go_must (refine wpList_append_sl _ rfl _ _ 23 rfl w.heap.size 42 i0 _ 5 72 Try.underlying23 hi hz0 hz1 hz2 rfl (by decide) HO2.out rfl HSX.out rfl (rules_one x) (by unfold maxLen; omega) (by omega) HB2.out.size ?_); intro v' w2 hown2 hg2)
      go_roundw
      case rel => exact .inr (.inl ⟨rfl, by simpa using hown2, HB2.out.grown hg2 HB2.out.size (fun k hk => (HO2.out.lt k hk).1)⟩)
      case measure => simp [intOf]
    · have hd1 := (hb.cell (lt_of_cell hc1)).trans hc1
      have HO2 := Lib.hid ho
      have HB2 := Lib.hid hb
      have HSY := Lib.hid (Sl.below (B := w.heap.size) HY.out hb)
      obtain ⟨av, cv, hv⟩ := own_shape HO2.out
      subst hv
      clear ho hb
      go_wp2_with (at_builtin; go_must (refine wpList_append_sl _ rfl _ _ 23 rfl w.heap.size 42 i0 _ 5 72 Try.underlying23 hi hz0 hz1 hz2 rfl (by decide) HO2.out rfl HSY.out rfl (rules_one y) (by unfold maxLen; omega) (by omega) HB2.out.size ?_); intro v' w2 hown2 hg2)
      go_roundw
      case rel => exact .inr (.inr ⟨rfl, by rw [List.flatMap_append]; exact hown2, HB2.out.grown hg2 HB2.out.size (fun k hk => (HO2.out.lt k hk).1)⟩)
      case measure => simp [intOf]
    · have HO2 := Lib.hid ho
      have HB2 := Lib.hid hb
      obtain ⟨av, cv, hv⟩ := own_shape HO2.out
      subst hv
      clear ho hb
      go_wp2_with fail
      go_ret
      exact ⟨_, rfl, HO2.out, HB2.out⟩
end Go.Proofs.Ytlmkokeapbleoaa
end
section
namespace Go.Proofs.Ytlmkokeapbleoaa
open Go.RowKit
def famU (rs : List RuleI) : List (Item Sp) := rs.map fun r => r.gs.headD (none, 0, [])
theorem famU_at {rs : List RuleI} {k : Nat} {r : RuleI} (h : rs[k]? = some r) : (famU rs)[k]? = some (r.gs.headD (none, 0, [])) := by
  unfold famU; rw [List.getElem?_map, h]; rfl
theorem famU_length (rs : List RuleI) : (famU rs).length = rs.length := by unfold famU; simp
def BlkBad (x y : DescI) (v : Int) : Prop := (v = 2 ∧ ¬ (DescOk x.L ∧ DescOk y.L ∧ x.i = y.i)) ∨ (v = 1 ∧ (DescOk x.L ∧ DescOk y.L ∧ x.i = y.i) ∧ ¬ (OneI x ∧ OneI y))
structure BlkOk (x y : DescI) : Prop where
  xok : DescOk x.L
  yok : DescOk y.L
  same : x.i = y.i
  xone : OneI x
  yone : OneI y
def RetBlk (w0 : World) (x y : DescI) (F : World → Prop) (e : Ending) (w' : World) : Prop :=
  (∃ v, BlkBad x y v ∧ e = .returned (.tuple #[.slice none 0 0, .int .i64 v]) ∧ Hid (St w0 w' F)) ∨
  (BlkOk x y ∧ RetSplit w0 (splitL (domL x.i) (bodies (famU (x.rs ++ y.rs)))) F e w')
theorem RetSplit.weaken {w0 : World} {S : Option (List (List Sp))} {F G : World → Prop} {e : Ending} {w' : World} (h : RetSplit w0 S F e w') (hG : ∀ W, F W → G W) : RetSplit w0 S G e w' := by
  rcases h with ⟨h1, h2, h3⟩ | ⟨A, c, O, h1, h2, h3, h4⟩
  · exact .inl ⟨h1, h2, Lib.hid (h3.out.weaken hG)⟩
  · exact .inr ⟨A, c, O, h1, h2, h3, Lib.hid (h4.out.weaken fun W h => ⟨h.1, hG W h.2⟩)⟩
section
variable {w0 w : World} {F : World → Prop}
theorem Blocks_st (hK : Hid (St w0 w F)) (x y : DescI) (hx : ∀ W, F W → DescW x W) (hy : ∀ W, F W → DescW y W) :
    Calls Try.prog 7 #[.agg #[.int .i64 x.i, .int .i64 x.o, .int .i64 x.n, .int .i64 x.s, .slice x.ra x.rs.length x.rc, .slice x.fa x.fs.length x.fc], .agg #[.int .i64 y.i, .int .i64 y.o, .int .i64 y.n, .int .i64 y.s, .slice y.ra y.rs.length y.rc, .slice y.fa y.fs.length y.fc]] w (RetBlk w0 x y F) := by
  have HKA := St.box hK [.int .i64 x.i, .int .i64 x.o, .int .i64 x.n, .int .i64 x.s, .slice x.ra x.rs.length x.rc, .slice x.fa x.fs.length x.fc] 26
  have HKB := St.box HKA [.int .i64 y.i, .int .i64 y.o, .int .i64 y.n, .int .i64 y.s, .slice y.ra y.rs.length y.rc, .slice y.fa y.fs.length y.fc] 26
  have hsz : (w.alloc (.cells [.int .i64 x.i, .int .i64 x.o, .int .i64 x.n, .int .i64 x.s, .slice x.ra x.rs.length x.rc, .slice x.fa x.fs.length x.fc].toArray 26)).heap.size = w.heap.size + 1 := by simp
  rw [hsz] at HKB
  clear hsz HKA
  have HX := Lib.hid hx
  have HY := Lib.hid hy
  clear hx hy
  obtain ⟨F2, hF2⟩ : ∃ G : World → Prop, (fun W => BoxC (w.heap.size + 1) [.int .i64 y.i, .int .i64 y.o, .int .i64 y.n, .int .i64 y.s, .slice y.ra y.rs.length y.rc, .slice y.fa y.fs.length y.fc] W ∧ BoxC w.heap.size [.int .i64 x.i, .int .i64 x.o, .int .i64 x.n, .int .i64 x.s, .slice x.ra x.rs.length x.rc, .slice x.fa x.fs.length x.fc] W ∧ F W) = G := ⟨_, rfl⟩
  have HF2 : Hid (∀ W, F2 W → BoxC (w.heap.size + 1) [.int .i64 y.i, .int .i64 y.o, .int .i64 y.n, .int .i64 y.s, .slice y.ra y.rs.length y.rc, .slice y.fa y.fs.length y.fc] W ∧ BoxC w.heap.size [.int .i64 x.i, .int .i64 x.o, .int .i64 x.n, .int .i64 x.s, .slice x.ra x.rs.length x.rc, .slice x.fa x.fs.length x.fc] W ∧ F W) := Lib.hid fun W h => by rw [← hF2] at h; exact h
  rw [hF2] at HKB
  clear hF2 hK
  obtain ⟨q0, q1, q2, q3, q4, q5⟩ := (HF2.out _ HKB.out.now).2.1.c6
  obtain ⟨p0, p1, p2, p3, p4, p5⟩ := (HF2.out _ HKB.out.now).1.c6
  obtain ⟨vx, HVX⟩ : ∃ vx, Hid (pB (DescOk x.L) = vx) := ⟨_, rfl⟩
  obtain ⟨vy, HVY⟩ : ∃ vy, Hid (pB (DescOk y.L) = vy) := ⟨_, rfl⟩
  go_enter Try.func7, Try.ntmps7
  go_wp2_with fail
  refine (dCheck_st HKB x (fun W h => HX.out W (HF2.out W h).2.2) vx HVX (stageD x)).mono ?_
  clear q0 q1 q2 q3 q4 q5 p0 p1 p2 p3 p4 p5
  rintro e w1 hr
  rcases vx with _ | _
  · obtain ⟨rfl, HK1⟩ := hr
    go_wp2_with fail
    go_ret2
    exact .inl ⟨2, .inl ⟨rfl, fun h => by have := pB_true h.1; rw [HVX.out] at this; cases this⟩, rfl, Lib.hid (HK1.out.weaken fun W h => (HF2.out W h).2.2)⟩
  obtain ⟨rfl, HK1⟩ := hr
  obtain ⟨p0, p1, p2, p3, p4, p5⟩ := (HF2.out _ HK1.out.now).1.c6
  go_wp2_with fail
  refine (dCheck_st HK1 y (fun W h => HY.out W (HF2.out W h).2.2) vy HVY (stageD y)).mono ?_
  clear p0 p1 p2 p3 p4 p5 HKB
  rintro e w2 hr
  rcases vy with _ | _
  · obtain ⟨rfl, HK2⟩ := hr
    go_wp2_with fail
    go_ret2
    exact .inl ⟨2, .inl ⟨rfl, fun h => by have := pB_true h.2.1; rw [HVY.out] at this; cases this⟩, rfl, Lib.hid (HK2.out.weaken fun W h => (HF2.out W h).2.2)⟩
  obtain ⟨rfl, HK2⟩ := hr
  obtain ⟨q0, q1, q2, q3, q4, q5⟩ := (HF2.out _ HK2.out.now).2.1.c6
  obtain ⟨p0, p1, p2, p3, p4, p5⟩ := (HF2.out _ HK2.out.now).1.c6
  by_cases hio : x.i = y.i
  case neg =>
    have hb : (x.i != y.i) = true := bne_iff_ne.2 hio
    go_wp2_with fail
    go_ret2
    exact .inl ⟨2, .inl ⟨rfl, fun h => hio h.2.2⟩, rfl, Lib.hid (HK2.out.weaken fun W h => (HF2.out W h).2.2)⟩
  have hb : (x.i != y.i) = false := by rw [hio]; simp
  have HIO := Lib.hid hio
  clear hio
  have HXO : Hid (DescOk x.L) := Lib.hid (pB_iff.1 HVX.out)
  have HYO : Hid (DescOk y.L) := Lib.hid (pB_iff.1 HVY.out)
  obtain ⟨ux, HUX⟩ : ∃ ux, Hid (pB (OneI x) = ux) := ⟨_, rfl⟩
  obtain ⟨uy, HUY⟩ : ∃ uy, Hid (pB (OneI y) = uy) := ⟨_, rfl⟩
  go_wp2_with fail
  refine (One_st HK2 x (fun W h => HX.out W (HF2.out W h).2.2) ux HUX).mono ?_
  clear q0 q1 q2 q3 q4 q5 p0 p1 p2 p3 p4 p5 HK1
  rintro e w3 ⟨rfl, HK3⟩
  rcases ux with _ | _
  · go_wp2_with fail
    go_ret2
    exact .inl ⟨1, .inr ⟨rfl, ⟨HXO.out, HYO.out, HIO.out⟩, fun h => by have := pB_true h.1; rw [HUX.out] at this; cases this⟩, rfl, Lib.hid (HK3.out.weaken fun W h => (HF2.out W h).2.2)⟩
  obtain ⟨p0, p1, p2, p3, p4, p5⟩ := (HF2.out _ HK3.out.now).1.c6
  go_wp2_with fail
  refine (One_st HK3 y (fun W h => HY.out W (HF2.out W h).2.2) uy HUY).mono ?_
  clear p0 p1 p2 p3 p4 p5 HK2
  rintro e w4 ⟨rfl, HK4⟩
  rcases uy with _ | _
  · go_wp2_with fail
    go_ret2
    exact .inl ⟨1, .inr ⟨rfl, ⟨HXO.out, HYO.out, HIO.out⟩, fun h => by have := pB_true h.2; rw [HUY.out] at this; cases this⟩, rfl, Lib.hid (HK4.out.weaken fun W h => (HF2.out W h).2.2)⟩
  have HBO : Hid (BlkOk x y) := Lib.hid ⟨HXO.out, HYO.out, HIO.out, pB_iff.1 HUX.out, pB_iff.1 HUY.out⟩
  have q4 := (HF2.out _ HK4.out.now).2.1 4 _ rfl
  have p4 := (HF2.out _ HK4.out.now).1 4 _ rfl
  have hxl : x.rs.length ≤ 4096 := by have := HXO.out.head.2.2.2.2.2.1; simpa [DescI.L] using this
  have hyl : y.rs.length ≤ 4096 := by have := HYO.out.head.2.2.2.2.2.1; simpa [DescI.L] using this
  clear HVX HVY HUX HUY HXO HYO HK3 hb
  go_wp2_with fail
  have HK5 := Lib.hid (HK4.out.alloc (.cells #[.slice x.ra x.rs.length x.rc, .slice y.ra y.rs.length y.rc] 23))
  have hnw := heap_alloc_new w4 (.cells #[.slice x.ra x.rs.length x.rc, .slice y.ra y.rs.length y.rc] 23)
  refine (ConcatR_any w4.heap.size x.ra y.ra x.rs.length x.rc y.rs.length y.rc x.rs y.rs _ (HX.out _ (HF2.out _ HK5.out.now).2.2).rules.sl (HY.out _ (HF2.out _ HK5.out.now).2.2).rules.sl (by omega) (by omega) (by rw [World.cell?_alloc_new]; rfl) (by rw [World.cell?_alloc_new]; rfl)).mono ?_
  rintro e w6 ⟨v, rfl, hown, hbel⟩
  obtain ⟨A, c, rfl⟩ := own_shape hown
  clear hnw q4 p4
  have HK6 : Hid (St w0 w6 (fun W => RulesAt Lst A (x.rs ++ y.rs) W ∧ F2 W)) := Lib.hid (HK5.out.add hbel fun W hW => by
    have h2 := HF2.out _ (HK5.out.1 W (below_to hbel hW))
    refine ⟨?_, fun r hr => ?_, by rw [List.length_append]; omega⟩
    · rw [List.length_append]
      exact Sl.below (B := 0) (Sl.of_own hown) hW
    · rcases List.mem_append.1 hr with h | h
      · exact (HX.out _ h2.2.2).rules.it r h
      · exact (HY.out _ h2.2.2).rules.it r h)
  clear hown hbel HK5 HK4
  have HON : Hid (∀ r ∈ x.rs ++ y.rs, r.gs.length = 1) := Lib.hid fun r hr => by
    rcases List.mem_append.1 hr with h | h
    · exact HBO.out.xone.1 r h
    · exact HBO.out.yone.1 r h
  have hln : (x.rs ++ y.rs).length = x.rs.length + y.rs.length := List.length_append
  rw [← hln]
  have hl8 : (x.rs ++ y.rs).length ≤ 8192 := by omega
  obtain ⟨rs, hrs⟩ : ∃ z, x.rs ++ y.rs = z := ⟨_, rfl⟩
  have HRS := Lib.hid hrs
  rw [hrs] at HK6 HON hl8
  rw [hrs]
  clear hrs hln hxl hyl
  go_wp2_with fail
  go_loopw [6, 39] (fun fv iv wr => ∃ (k : Nat) (A5 : Option Addr) (c5 : Nat), k ≤ rs.length ∧ iv = .int .i64 k ∧ fv = .slice A5 k c5 ∧ Hid (wr.ownsRow w6.heap.size 36 1 (.slice A5 k c5) k ((icells (famU rs)).take k)) ∧ Hid (Below w6.heap.size w6 wr)) (fun _ iv _ => rs.length - (intOf iv).toNat)
  case atStart => exact ⟨0, none, 0, Nat.zero_le _, rfl, rfl, Lib.hid (World.ownsRow_nil _ _ _ _), Lib.hid (Below.refl _ _)⟩
  case round =>
  obtain ⟨k, A5, c5, hk, rfl, rfl, HO, HBL⟩ := hrel
  have HK7 := Lib.hid (HK6.out.step HBL.out)
  have hs6 := HBL.out.size
  by_cases hlt : k < rs.length
  · obtain ⟨rb, off, r, rfl, hx, hw, hd0, hd1, hd2, hd3, hd4⟩ := HK7.out.now.1.at_ hlt
    have h1 := HON.out r (List.mem_of_getElem? hx)
    have hfx := famU_at hx
    obtain ⟨fr, dst, ga, gc, gs, ee, o⟩ := r
    simp only at h1 hfx hd0 hd1 hd2 hd3 hd4 hw
    obtain ⟨⟨ba, bc, b⟩, rfl⟩ := List.length_eq_one_iff.1 h1
    obtain ⟨gb, goff, ba', bc', b', hga, hx0, _, hcell, hl⟩ := hw.2.1.at_ (k := 0) (by simp)
    simp only at hga
    subst hga
    simp at hx0
    obtain ⟨rfl, rfl, rfl⟩ := hx0
    have hd2 : wr.cell? ⟨rb, off + k * 5 + 2, none⟩ = some (.slice (some ⟨gb, goff, none⟩) 1 gc) := hd2
    have HIX : Hid ((icells (famU rs))[k]? = some (.slice ba b.length bc)) := Lib.hid (icells_at hfx)
    have HO2 : Hid ((wr.alloc (.cells #[.int .i64 fr, .int .i64 dst, .slice (some ⟨gb, goff, none⟩) 1 gc, .int .i64 ee, .slice o.a o.l.length o.c] 42)).ownsRow w6.heap.size 36 1 (.slice A5 k c5) k ((icells (famU rs)).take k)) := Lib.hid (HO.out.alloc _)
    have hs7 : w6.heap.size ≤ (wr.alloc (.cells #[.int .i64 fr, .int .i64 dst, .slice (some ⟨gb, goff, none⟩) 1 gc, .int .i64 ee, .slice o.a o.l.length o.c] 42)).heap.size := by simp; omega
    have hcell : wr.cell? ⟨gb, goff, none⟩ = some (.slice ba b.length bc) := hcell
    have hcell2 : (wr.alloc (.cells #[.int .i64 fr, .int .i64 dst, .slice (some ⟨gb, goff, none⟩) 1 gc, .int .i64 ee, .slice o.a o.l.length o.c] 42)).cell? ⟨gb, goff, none⟩ = some (.slice ba b.length bc) := (World.cell?_alloc_lt _ _ _ (lt_of_cell hcell)).trans hcell
    have hl40 : k < 1099511627776 := by omega
    clear hx hw hfx h1 hl
    go_wp2_with (at_builtin; go_must (refine wpList_pushL rfl _ _ rfl HO2.out rfl (.slice ba b.length bc) rfl (by first | rfl | (simp; rfl) | simp) hl40 hs7 ?_); intro A9 c9 w9 HO9 HG9 HAT9)
    have HBN : Hid (Below w6.heap.size w6 w9) := Lib.hid (((HBL.out.alloc hs6 _).alloc hs7 _).grown HG9.out (by simp; omega) fun g hg => (HO.out.lt g hg).1)
    have HON9 : Hid (w9.ownsRow w6.heap.size 36 1 (.slice A9 (k + 1) c9) (k + 1) ((icells (famU rs)).take (k + 1))) := Lib.hid (by rw [take_snoc? HIX.out]; exact HO9.out)
    exact ⟨⟨k + 1, A9, c9, by omega, by go_num, rfl, HON9, HBN⟩, by simp [intOf]; omega⟩
  obtain rfl : k = rs.length := by omega
  have hd : decide (rs.length < rs.length) = false := by simp
  have hfl : (famU rs).length = rs.length := famU_length rs
  have HKL : Hid (St w0 wr (fun W => LL A5 (famU rs) W ∧ F2 W)) := Lib.hid (HK7.out.add (Below.refl _ _) (G := LL A5 (famU rs)) (fun W hW => by
    refine ⟨?_, fun i hi => ?_⟩
    · rw [hfl]
      have h1 := Sl.below (B := 0) (Sl.of_own HO.out) hW
      rwa [List.take_of_length_le (by rw [icells_length]; omega)] at h1
    · obtain ⟨r, hr, rfl⟩ := List.mem_map.1 hi
      obtain ⟨it, hit⟩ := List.length_eq_one_iff.1 (HON.out r hr)
      have h2 := ((HK7.out.1 W hW).1.it r hr).2.1.1.it it (by rw [hit]; simp)
      rw [hit]
      exact h2) |>.weaken fun W h => ⟨h.1, h.2.2⟩)
  have q0 := (HF2.out _ HKL.out.now.2).2.1 0 _ rfl
  clear HK7 HO HBL HK6
  go_wp2_with fail
  refine (DomX_st HKL x.i).mono ?_
  rintro e w7 ⟨A1, c1, rfl, HK8⟩
  clear q0 hd
  go_wp2_with fail
  have hsp := Split_st HK8 (fun _ h => h.1) (fun _ h => h.2.1) (by rw [hfl]; omega) c1 c5 (Lib.hid (Rep.self (domL_plain x.i)))
  rw [hfl] at hsp
  refine hsp.mono ?_
  clear hsp
  rintro e w8 hr
  rcases hr with ⟨hS, rfl, HK9⟩ | ⟨A9, c9, O, hS, hO, rfl, HK9⟩
  · go_wp2_with fail
    go_ret2
    exact .inr ⟨HBO.out, .inl ⟨by rw [HRS.out]; exact hS, rfl, Lib.hid (HK9.out.weaken fun W h => (HF2.out W h.2.2).2.2)⟩⟩
  · go_wp2_with fail
    go_ret2
    exact .inr ⟨HBO.out, .inr ⟨A9, c9, O, by rw [HRS.out]; exact hS, hO, rfl, Lib.hid (HK9.out.weaken fun W h => ⟨h.1, (HF2.out W h.2.2.2).2.2⟩)⟩⟩
end
end Go.Proofs.Ytlmkokeapbleoaa
end
section
namespace Go.Proofs.Ytlmkokeapbleoaa
open Go.RowKit
open Pairs
def letP : List (List Sp) := [[(0, 96), (98, 255)], [(97, 97)]]
theorem let_more (k : Nat) : splitF letP (List.replicate k [((97 : Int), (97 : Int))]) = some letP := by
  have m4 : meetM [(0, 96), (98, 255)] [(97, 97)] = [] := meetL_eq ⟨by simp [Plain, PlainF], fun x => ⟨fun h => h.elim, fun h => by simp only [InS, Mem, or_false] at h; omega⟩⟩
  have d4 : minusL [(0, 96), (98, 255)] [(97, 97)] = [(0, 96), (98, 255)] := minusL_eq ⟨by simp [Plain, PlainF], fun x => by simp only [InS, Mem, or_false]; omega⟩
  have m5 : meetM [(97, 97)] [(97, 97)] = [(97, 97)] := meetL_eq ⟨by simp [Plain, PlainF], fun x => by simp only [InS, Mem, or_false]; omega⟩
  have d5 : minusL [(97, 97)] [(97, 97)] = [] := minusL_eq ⟨by simp [Plain, PlainF], fun x => ⟨fun h => h.elim, fun h => by simp only [InS, Mem, or_false] at h; omega⟩⟩
  have p3 : parts [(97, 97)] [] letP = letP := by simp [letP, parts, m4, d4, m5, d5, addL]
  have s3 : stabS letP = letP := stabS_eq ⟨[0, 1], by decide, by simp [letP], by simp [letP, keyS]⟩
  induction k with
  | zero => rfl
  | succ k ih =>
    rw [List.replicate_succ]
    simp only [splitF]
    rw [p3, if_neg (by simp [letP]), s3]
    exact ih
theorem let_split (k : Nat) : splitL [(0, 255)] (List.replicate (k + 1) [((97 : Int), (97 : Int))]) = some letP := by
  have m1 : meetM [(0, 255)] [(97, 97)] = [(97, 97)] := meetL_eq ⟨by simp [Plain, PlainF], fun x => by simp only [InS, Mem, or_false]; omega⟩
  have d1 : minusL [(0, 255)] [(97, 97)] = [(0, 96), (98, 255)] := minusL_eq ⟨by simp [Plain, PlainF], fun x => by simp only [InS, Mem, or_false]; omega⟩
  have p1 : parts [(97, 97)] [] [[(0, 255)]] = [[(97, 97)], [(0, 96), (98, 255)]] := by simp [parts, m1, d1, addL]
  have s1 : stabS [[(97, 97)], [(0, 96), (98, 255)]] = letP := stabS_eq ⟨[1, 0], by decide, by simp [letP], by simp [keyS]⟩
  unfold splitL
  rw [if_neg (by simp), List.replicate_succ]
  simp only [splitF]
  rw [p1, if_neg (by simp), s1]
  exact let_more k
theorem normL_self' {l : List Sp} (h : Plain l) : normL l = l := Rep.unique (normL_rep l).out (Rep.self h) (fun _ => Iff.rfl)
theorem let_least : letP.map leastI = [0, 97] := by
  unfold letP
  simp only [List.map_cons, List.map_nil, leastI]
  rw [normL_self' (by simp [Plain, PlainF]), normL_self' (by simp [Plain, PlainF])]
  rfl
theorem let_has (g1 g2 : Nat) (f t : Int) : ([0, 97] : List Int).map (fun x => hasR x (letR g1 g2 f t)) = [false, true] := by
  have h0 : hasR 0 (letR g1 g2 f t) = false := rfl
  have h1 : hasR 97 (letR g1 g2 f t) = true := rfl
  simp [h0, h1]
def lineP (n : Nat) : DS := ⟨n + 1, 0, (List.range n).map fun s => (s, s + 1, [false, true]), [n]⟩
theorem let_line (g1 g2 g3 : Nat) (A : Option Addr) (c n : Nat) : toDS (letDI g3 A c n (letAll g1 g2 n false)) [0, 97] (n + 1) = lineP n := by
  unfold toDS lineP letDI letAll letRs
  simp only [DS.mk.injEq, true_and, List.map_map, List.map_cons, List.map_nil]
  refine ⟨rfl, ?_, rfl⟩
  rw [if_neg (by simp), List.append_nil, List.map_map]
  refine List.map_congr_left fun i hi => ?_
  show ((i : Int).toNat, ((i : Int) + 1).toNat, ([0, 97] : List Int).map fun x => hasR x (letR g1 g2 (i : Int) ((i : Int) + 1))) = _
  rw [let_has]
  simp only [Prod.mk.injEq, and_true]
  exact ⟨by omega, by omega⟩
theorem let_round (g1 g2 g3 : Nat) (A : Option Addr) (c n : Nat) : toDS (letDI g3 A c n (letAll g1 g2 n true)) [0, 97] (n + 1) = roundP (n + 1) := by
  unfold toDS roundP letDI letAll letRs
  simp only [DS.mk.injEq, true_and, List.map_map, List.map_cons, List.map_nil]
  refine ⟨rfl, ?_, by simp⟩
  rw [if_pos trivial, List.map_append, List.map_map, List.range_succ, List.map_append]
  congr 1
  · refine List.map_congr_left fun i hi => ?_
    have hi := List.mem_range.1 hi
    show ((i : Int).toNat, ((i : Int) + 1).toNat, ([0, 97] : List Int).map fun x => hasR x (letR g1 g2 (i : Int) ((i : Int) + 1))) = _
    rw [let_has, Nat.mod_eq_of_lt (by omega)]
    simp only [Prod.mk.injEq, and_true]
    exact ⟨by omega, by omega⟩
  · show [((n : Int).toNat, (0 : Int).toNat, ([0, 97] : List Int).map fun x => hasR x (letR g1 g2 (n : Int) 0))] = _
    rw [let_has]
    simp
theorem let_fam (g1 g2 n : Nat) (b : Bool) : bodies (famU (letAll g1 g2 n b)) = List.replicate (n + if b = true then 1 else 0) [((97 : Int), (97 : Int))] := by
  apply List.eq_replicate_iff.2
  constructor
  · rw [bodies_length, famU_length]
    unfold letAll letRs
    rw [List.length_append, List.length_map, List.length_range]
    cases b <;> simp
  · intro s hs
    unfold bodies famU at hs
    rw [List.map_map] at hs
    obtain ⟨r, hr, rfl⟩ := List.mem_map.1 hs
    obtain ⟨f, t, rfl, _⟩ := letAll_mem hr
    rfl
theorem awake20_a : sameP (lineP 2) (roundP 1) 2 9 = .tells [] := by decide +kernel
theorem awake20_b : sameP (roundP 1) (roundP 1) 2 9 = .same := by decide +kernel
end Go.Proofs.Ytlmkokeapbleoaa
end
section
namespace Go.Proofs.Ytlmkokeapbleoaa
open Go.RowKit
def cntX (P : List (List Sp)) (x : Int) : Nat := P.countP fun b => hasB b x
theorem cntX_append (P Q : List (List Sp)) (x : Int) : cntX (P ++ Q) x = cntX P x + cntX Q x := by unfold cntX; rw [List.countP_append]
theorem cntX_one (b : List Sp) (x : Int) : cntX [b] x = if hasB b x then 1 else 0 := by
  unfold cntX; rw [List.countP_cons, List.countP_nil]; simp
theorem hasB_nil (x : Int) : hasB [] x = false := by
  rw [← Bool.not_eq_true, hasB_iff]; rintro ⟨_, _, h⟩; exact h
theorem cntX_addL (P : List (List Sp)) (b : List Sp) (x : Int) : cntX (addL P b) x = cntX P x + cntX [b] x := by
  unfold addL
  split
  · rename_i h; subst h; rw [cntX_one, hasB_nil]; simp
  · exact cntX_append _ _ _
theorem hasB_meet (b s : List Sp) (x : Int) : hasB (meetM b s) x = (hasB b x && hasB s x) := by
  rw [Bool.eq_iff_iff, hasB_iff, (meetL_rep b s).out.mem, Bool.and_eq_true, hasB_iff, hasB_iff]
theorem hasB_minus (b s : List Sp) (x : Int) : hasB (minusL b s) x = (hasB b x && !hasB s x) := by
  rw [Bool.eq_iff_iff, hasB_iff, (minusL_rep b s).out.mem, Bool.and_eq_true, hasB_iff, Bool.not_eq_true', ← Bool.not_eq_true, hasB_iff]
theorem cntX_parts (s : List Sp) (x : Int) (L P : List (List Sp)) : cntX (parts s P L) x = cntX P x + cntX L x := by
  induction L generalizing P with
  | nil => simp [parts, cntX]
  | cons b L ih =>
    have e : cntX (b :: L) x = cntX [b] x + cntX L x := cntX_append [b] L x
    rw [parts, ih, cntX_addL, cntX_addL, e, cntX_one, cntX_one, cntX_one, hasB_meet, hasB_minus]
    cases hasB b x <;> cases hasB s x <;> simp <;> omega
theorem StabRel.perm {P Q : List (List Sp)} (h : StabRel P Q) : Q.Perm P := by
  obtain ⟨ix, h1, rfl, _⟩ := h
  have h2 := h1.map (fun i => P[i]!)
  have e : (List.range P.length).map (fun i => P[i]!) = P := by
    apply List.ext_getElem?
    intro k
    rw [List.getElem?_map]
    by_cases hk : k < P.length
    · rw [List.getElem?_range hk, List.getElem?_eq_getElem hk]
      simp [List.getElem?_eq_getElem hk]
    · rw [List.getElem?_eq_none (by simp; omega), List.getElem?_eq_none (by omega)]; rfl
  rwa [e] at h2
theorem cntX_perm {P Q : List (List Sp)} (h : Q.Perm P) (x : Int) : cntX Q x = cntX P x := by unfold cntX; exact h.countP_eq _
theorem parts_mem {s c : List Sp} {L P : List (List Sp)} (h : c ∈ parts s P L) : c ∈ P ∨ ∃ b ∈ L, c = meetM b s ∨ c = minusL b s := by
  induction L generalizing P with
  | nil => exact .inl h
  | cons b L ih =>
    rcases ih h with h | ⟨b', h1, h2⟩
    · have key : ∀ (Q : List (List Sp)) (y : List Sp), c ∈ addL Q y → c ∈ Q ∨ c = y := by
        intro Q y hy
        unfold addL at hy
        split at hy
        · exact .inl hy
        · rcases List.mem_append.1 hy with hy | hy
          · exact .inl hy
          · exact .inr (by simpa using hy)
      rcases key _ _ h with h | h
      · rcases key _ _ h with h | h
        · exact .inl h
        · exact .inr ⟨b, by simp, .inl h⟩
      · exact .inr ⟨b, by simp, .inr h⟩
    · exact .inr ⟨b', List.mem_cons_of_mem _ h1, h2⟩
def alikeB (fam : List (List Sp)) (x y : Int) : Bool := fam.all fun s => hasB s x == hasB s y
theorem alikeB_snoc (fam : List (List Sp)) (s : List Sp) (x y : Int) : alikeB (fam ++ [s]) x y = (alikeB fam x y && (hasB s x == hasB s y)) := by simp [alikeB]
structure Blocks (r : List Sp) (fam P : List (List Sp)) : Prop where
  one : ∀ x, cntX P x = if hasB r x then 1 else 0
  same : ∀ b ∈ P, ∀ x y, hasB b x = true → (hasB b y = true ↔ (hasB r y = true ∧ alikeB fam x y = true))
theorem Blocks.start {r : List Sp} : Blocks r [] [r] := ⟨fun x => cntX_one r x, fun b hb x y hx => by simp at hb; subst hb; simp [alikeB]⟩
theorem Blocks.inr {r : List Sp} {fam P : List (List Sp)} (h : Blocks r fam P) {b : List Sp} (hb : b ∈ P) {x : Int} (hx : hasB b x = true) : hasB r x = true := ((h.same b hb x x hx).1 hx).1
theorem Blocks.next {r s : List Sp} {fam P : List (List Sp)} (h : Blocks r fam P) {Q : List (List Sp)} (hq : StabRel (parts s [] P) Q) : Blocks r (fam ++ [s]) Q := by
  refine ⟨fun x => ?_, fun c hc x y hx => ?_⟩
  · rw [cntX_perm hq.perm, cntX_parts, show cntX [] x = 0 from rfl, Nat.zero_add]; exact h.one x
  · have hc' := (hq.mem c).1 hc
    rcases parts_mem hc' with h0 | ⟨b, hb, rfl | rfl⟩
    · cases h0
    · rw [hasB_meet, Bool.and_eq_true] at hx
      rw [hasB_meet, Bool.and_eq_true, h.same b hb x y hx.1, alikeB_snoc, Bool.and_eq_true, hx.2, and_assoc]
      simp
    · rw [hasB_minus, Bool.and_eq_true, Bool.not_eq_true'] at hx
      rw [hasB_minus, Bool.and_eq_true, h.same b hb x y hx.1, alikeB_snoc, Bool.and_eq_true, hx.2, and_assoc]
      simp
theorem stab_ex (P : List (List Sp)) : ∃ Q, StabRel P Q := by
  let le : Nat → Nat → Bool := fun i j => decide (keyS P[i]! < keyS P[j]! ∨ (keyS P[i]! = keyS P[j]! ∧ i ≤ j))
  have hp := List.mergeSort_perm (List.range P.length) le
  have hw := List.pairwise_mergeSort (le := le) (fun a b c h1 h2 => by simp only [le, decide_eq_true_eq] at *; omega) (fun a b => by simp only [le, Bool.or_eq_true, decide_eq_true_eq]; omega) (List.range P.length)
  refine ⟨_, (List.range P.length).mergeSort le, hp, rfl, ?_⟩
  have hnd : ((List.range P.length).mergeSort le).Nodup := hp.nodup_iff.2 List.nodup_range
  rw [List.pairwise_iff_getElem] at hw ⊢
  intro i j hi hj hij
  have h1 := hw i j hi hj hij
  simp only [le, decide_eq_true_eq] at h1
  have h2 : ((List.range P.length).mergeSort le)[i] ≠ ((List.range P.length).mergeSort le)[j] := by
    intro e
    rw [List.Nodup, List.pairwise_iff_getElem] at hnd
    exact hnd i j hi hj hij e
  rcases h1 with h1 | ⟨h1, h1'⟩
  · exact .inl h1
  · exact .inr ⟨h1, Nat.lt_of_le_of_ne h1' h2⟩
theorem stabS_rel (P : List (List Sp)) : StabRel P (stabS P) := by
  obtain ⟨Q, h⟩ := stab_ex P
  rw [stabS_eq h]; exact h
theorem splitF_blocks {r : List Sp} {fam : List (List Sp)} : ∀ {fam0 out P : List (List Sp)}, Blocks r fam0 out → splitF out fam = some P → Blocks r (fam0 ++ fam) P := by
  induction fam with
  | nil => intro fam0 out P h e; simp only [splitF] at e; injection e with e; subst e; rw [List.append_nil]; exact h
  | cons s fam ih =>
    intro fam0 out P h e
    simp only [splitF] at e
    split at e
    · cases e
    · have := ih (h.next (stabS_rel _)) e
      rwa [List.append_assoc] at this
theorem splitL_blocks {r : List Sp} {fam P : List (List Sp)} (h : splitL r fam = some P) : Blocks r fam P := by
  unfold splitL at h
  split at h
  · rename_i hr
    injection h with h
    subst h; subst hr
    exact ⟨fun x => by rw [hasB_nil]; rfl, fun b hb => by cases hb⟩
  · exact splitF_blocks Blocks.start h
def tgL (P : List (List Sp)) (x y : Int) : Bool := P.foldl (fun t b => if hasB b x then hasB b y else t) false
theorem tgL_snoc (P : List (List Sp)) (b : List Sp) (x y : Int) : tgL (P ++ [b]) x y = if hasB b x then hasB b y else tgL P x y := by simp [tgL]
theorem tgL_some {P : List (List Sp)} {x y : Int} (h : cntX P x ≠ 0) : ∃ b ∈ P, hasB b x = true ∧ tgL P x y = hasB b y := by
  obtain ⟨n, hn⟩ : ∃ n, P.length = n := ⟨_, rfl⟩
  induction n generalizing P with
  | zero => rw [List.eq_nil_of_length_eq_zero hn] at h; exact absurd rfl h
  | succ n ih =>
    rcases List.eq_nil_or_concat P with rfl | ⟨Q, b, rfl⟩
    · simp at hn
    · rw [List.concat_eq_append] at *
      rw [tgL_snoc]
      by_cases hb : hasB b x = true
      · exact ⟨b, by simp, hb, by rw [if_pos hb]⟩
      · rw [cntX_append, cntX_one, if_neg hb, Nat.add_zero] at h
        obtain ⟨c, hc, h1, h2⟩ := ih h (by simp at hn; omega)
        exact ⟨c, by simp [hc], h1, by rw [if_neg hb]; exact h2⟩
theorem tells {r : List Sp} {fam P : List (List Sp)} (h : Blocks r fam P) (x y : Int) : cntX P x ≤ 1 ∧ cntX P y ≤ 1 ∧ (cntX P x = 1 ↔ hasB r x = true) ∧ (cntX P x ≠ 0 → cntX P y ≠ 0 → tgL P x y = alikeB fam x y) := by
  have h1 := h.one x
  have h2 := h.one y
  refine ⟨by rw [h1]; split <;> omega, by rw [h2]; split <;> omega, by rw [h1]; split <;> simp_all, fun hx hy => ?_⟩
  obtain ⟨b, hb, g1, g2⟩ := tgL_some (y := y) hx
  rw [g2, Bool.eq_iff_iff, h.same b hb x y g1]
  have : hasB r y = true := by
    rw [h2] at hy
    by_cases e : hasB r y = true
    · exact e
    · rw [if_neg e] at hy; exact absurd rfl hy
  simp [this]
end Go.Proofs.Ytlmkokeapbleoaa
end
section
namespace Go.Proofs.Ytlmkokeapbleoaa
open Go.RowKit
def keyV (a b : ByteArray) : Value := .agg #[.string a, .string b]
theorem keyLits_set (D : Nat) {b : ByteArray} (h : b.size ≤ maxLen) : Try.prog.keyLits (D + 1) 52 [.string b] = some [.string b.data.toList] := by
  unfold Program.keyLits
  rw [Try.underlying52]
  simp [h]
theorem keyLits_2s (D : Nat) {a b : ByteArray} (ha : a.size ≤ maxLen) (hb : b.size ≤ maxLen) : Try.prog.keyLits (D + 2) 57 [.string a, .string b] = some [.string a.data.toList, .string b.data.toList] := by
  have h2 : Try.prog.cellsOf 57 = 2 := by kernel_rfl
  have h1 : Try.prog.cellsOf 52 = 1 := by kernel_rfl
  unfold Program.keyLits
  rw [Try.underlying57]
  simp [h2, h1, List.range_succ, List.mapM_cons, keyLits_set D ha, keyLits_set D hb]
theorem set_key {a b : ByteArray} (ha : a.size ≤ maxLen) (hb : b.size ≤ maxLen) : ∃ kl, keyOf Try.prog 57 (keyV a b) = some kl := by
  have hkt : Try.prog.keyType 57 = true := by kernel_rfl
  have hf : (keyV a b).formed Try.prog 57 = true := by
    have : ∀ a b : Value, (Value.agg #[a, b]).formed Try.prog 57 = true := fun a b => by kernel_rfl
    exact this _ _
  obtain ⟨D, hD⟩ : ∃ D, Try.prog.types.size + 1 = D + 2 := ⟨Try.prog.types.size - 1, by
    have : 4 ≤ Try.prog.types.size := of_decide_eq_true (by kernel_rfl)
    omega⟩
  have hk := keyLits_2s D ha hb
  unfold keyOf
  rw [Try.underlying57]
  simp only [hkt, hf, Bool.and_self, if_true, hD]
  exact ⟨_, by
    show Option.map _ (Try.prog.keyLits (D + 2) 57 [.string a, .string b]) = _
    rw [hk]; rfl⟩
theorem set_keyed : Maps.Keyed Try.prog 57 :=
  Maps.Keyed.of_law (deep_law_laid laidOutA (m := 5) (by omega) (of_decide_eq_true (by kernel_rfl)) (by kernel_rfl) (by kernel_rfl))
theorem keyV_inj {a b c d : ByteArray} (h : keyV a b = keyV c d) : a = c ∧ b = d := by
  unfold keyV at h
  injection h with h
  have h := congrArg Array.toList h
  simp only [List.cons.injEq, Value.string.injEq, and_true] at h
  exact h
theorem bitsV_inj {l m : List Nat} {s t : List Bool} (h : BitsOf l s) (k : BitsOf m t) (e : bitsV l = bitsV m) : l = m := by
  have hl : l.length = m.length := by rw [← bitsV_size, ← bitsV_size, e]
  apply List.ext_getElem hl
  intro j h1 h2
  have a := bitsV_bt h (List.getElem?_eq_getElem h1)
  have b := bitsV_bt k (List.getElem?_eq_getElem h2)
  rw [e, b] at a
  omega
end Go.Proofs.Ytlmkokeapbleoaa
end
section
namespace Go.Proofs.Ytlmkokeapbleoaa
open Go.RowKit
def RevI (xs ys : List Int) (i : Nat) : Prop := ys.length = xs.length ∧ ∀ p, p < xs.length → ys[p]? = if p < i ∨ xs.length ≤ p + i then xs[xs.length - 1 - p]? else xs[p]?
theorem RevI.step {xs ys : List Int} {i : Nat} {a b : Int} (h : RevI xs ys i) (hi : 2 * i + 1 < xs.length) (ha : ys[i]? = some a) (hb : ys[xs.length - 1 - i]? = some b) : RevI xs ((ys.set i b).set (xs.length - 1 - i) a) (i + 1) := by
  refine ⟨by simp [h.1], fun p hp => ?_⟩
  have h1 := h.2 i (by omega)
  have h2 := h.2 (xs.length - 1 - i) (by omega)
  rw [if_neg (by omega)] at h1 h2
  rw [ha] at h1
  rw [hb] at h2
  by_cases e : p = xs.length - 1 - i
  · subst e
    rw [List.getElem?_set_self (by simp [h.1]; omega), if_pos (by omega), show xs.length - 1 - (xs.length - 1 - i) = i by omega, ← h1]
  · rw [List.getElem?_set_ne (fun q => e q.symm)]
    by_cases e2 : p = i
    · subst e2
      rw [List.getElem?_set_self (by rw [h.1]; omega), if_pos (by omega), ← h2]
    · rw [List.getElem?_set_ne (fun q => e2 q.symm), h.2 p hp]
      by_cases c : p < i ∨ xs.length ≤ p + i
      · rw [if_pos c, if_pos (by omega)]
      · rw [if_neg c, if_neg (by omega)]
theorem RevI.done {xs ys : List Int} {i : Nat} (h : RevI xs ys i) (hi : xs.length ≤ 2 * i + 1) : ys = xs.reverse := by
  apply List.ext_getElem?
  intro p
  by_cases hp : p < xs.length
  · rw [h.2 p hp, List.getElem?_reverse hp]
    by_cases c : p < i ∨ xs.length ≤ p + i
    · rw [if_pos c]
    · rw [if_neg c, show xs.length - 1 - p = p by omega]
  · rw [List.getElem?_eq_none (by rw [h.1]; omega), List.getElem?_eq_none (by simp; omega)]
theorem Reverse_any {base : Nat} {A : Option Addr} {c : Nat} (xs : List Int) (w : World) (hb : base ≤ w.heap.size) (h : Hid (w.ownsRow base 21 1 (.slice A xs.length c) xs.length (xs.map (Value.int .i32)))) (hn : xs.length < 1073741824) :
    Calls Try.prog 21 #[.slice A xs.length c] w fun e w' => e = .returned (.tuple #[]) ∧ Hid (w'.ownsRow base 21 1 (.slice A xs.length c) xs.length (xs.reverse.map (Value.int .i32))) ∧ Hid (Below base w w') := by
  go_enter Try.func21, Try.ntmps21
  go_wp2_with fail
  go_loopw [2, 3] (fun iv jv wr => ∃ (i : Nat) (ys : List Int), 2 * i ≤ xs.length ∧ iv = .int .i64 i ∧ jv = .int .i64 ((xs.length : Int) - 1 - i) ∧ Hid (RevI xs ys i) ∧ Hid (wr.ownsRow base 21 1 (.slice A xs.length c) xs.length (ys.map (Value.int .i32))) ∧ Hid (Below base w wr)) (fun iv _ _ => xs.length - (intOf iv).toNat)
  case atStart => exact ⟨0, xs, by omega, rfl, by simp, Lib.hid ⟨rfl, fun p hp => by rw [if_neg (by omega)]⟩, h, Lib.hid (Below.refl _ _)⟩
  case round =>
  obtain ⟨i, ys, hi, rfl, rfl, HR, HO, HB⟩ := hrel
  by_cases hlt : 2 * i + 1 < xs.length
  · obtain ⟨g, hA⟩ : ∃ g, A = some ⟨g, 0, none⟩ := by
      rcases HO.out.2 with ⟨e, e2⟩ | ⟨g, cap, cur, e, _⟩
      · omega
      · injection e with e; exact ⟨g, e⟩
    subst hA
    have hyl : ys.length = xs.length := HR.out.1
    obtain ⟨a, ha⟩ : ∃ a, ys[i]? = some a := ⟨_, List.getElem?_eq_getElem (by omega)⟩
    obtain ⟨j, hj⟩ : ∃ j, xs.length - 1 - i = j := ⟨_, rfl⟩
    obtain ⟨b, hbb⟩ : ∃ b, ys[j]? = some b := ⟨_, List.getElem?_eq_getElem (by omega)⟩
    have hji : (xs.length : Int) - 1 - (i : Int) = (j : Int) := by omega
    have hc1 : wr.cell? ⟨g, i, none⟩ = some (.int .i32 a) := by rw [HO.out.cellAt i (by omega), List.getElem?_map, ha]; rfl
    have hc2 : wr.cell? ⟨g, j, none⟩ = some (.int .i32 b) := by rw [HO.out.cellAt j (by omega), List.getElem?_map, hbb]; rfl
    have hf1 := HO.out.frozenAt i
    have hf2 := HO.out.frozenAt j
    have hs3 : (wr.setCell ⟨g, i, none⟩ (.int .i32 b)).cell? ⟨g, j, none⟩ = some (.int .i32 b) := by
      rw [(HO.out.stored i (.int .i32 b)).1.cellAt j (by omega), List.getElem?_set_ne (by omega), List.getElem?_map, hbb]; rfl
    have hij : (i : Int) < (j : Int) := by omega
    have hjx : (j : Int) < (xs.length : Int) := by omega
    have hix : (i : Int) < (xs.length : Int) := by omega
    have HST := Lib.hid ((HO.out.stored i (.int .i32 b)).1.stored j (.int .i32 a)).1
    have hrn := HR.out.step hlt ha (by rw [hj]; exact hbb)
    rw [hj] at hrn
    have HRN := Lib.hid hrn
    have hge := (HO.out.lt g rfl).1
    have HBN := Lib.hid (((HB.out.setCell (p := ⟨g, i, none⟩) hge (.int .i32 b)).setCell (p := ⟨g, j, none⟩) hge (.int .i32 a)).drew)
    clear hrn
    rw [hji]
    clear ha hbb
    have mixed : Try.prog.follows .mixedOrders = true := by kernel_rfl
    go_wp2_with fail
    go_big_region_o
    clear hc1 hc2 hs3 hf1 hf2
    go_wp2_with fail
    exact ⟨⟨i + 1, (ys.set i b).set j a, by omega, by go_num, by congr 1; omega, HRN, Lib.hid (by rw [List.map_set, List.map_set]; exact HST.out), HBN⟩, by simp [intOf]; omega⟩
  · have hnl : ¬ ((i : Int) < (xs.length : Int) - 1 - (i : Int)) := by omega
    have HRV : Hid (ys = xs.reverse) := Lib.hid (HR.out.done (by omega))
    go_wp2_with fail
    go_end0
    exact ⟨rfl, by (first | rw [← List.map_reverse] | skip); rw [← HRV.out]; exact HO, HB⟩
end Go.Proofs.Ytlmkokeapbleoaa
end
section
namespace Go.Proofs.Ytlmkokeapbleoaa
open Go.RowKit
theorem infoRn2 : (Try.prog.info? 21).map (fun i => (i.zero, i.size, i.bytes)) = some (some (.int .i32 0), 1, 4) := by kernel_rfl
structure PairI where
  la : List Nat
  lb : List Nat
  fr : Int
  blk : Nat
def pairC (p : PairI) : List Value := [.string (bitsV p.la), .string (bitsV p.lb), .int .i64 p.fr, .int .i64 (p.blk : Int)]
def PairsAt (A : Option Addr) (L : List PairI) (W : World) : Prop := RowsAt 4 pairC (fun _ _ => True) A L W
theorem PairsAt.below {A : Option Addr} {L : List PairI} {W W' : World} (h : PairsAt A L W) (hb : Below W.heap.size W W') : PairsAt A L W' := RowsAt.below h (fun _ _ _ h _ => h) hb
theorem PairsAt.at_ {A : Option Addr} {L : List PairI} {W : World} (h : PairsAt A L W) {j : Nat} (hj : j < L.length) : ∃ b off p, A = some ⟨b, off, none⟩ ∧ L[j]? = some p ∧
    W.cell? ⟨b, off + j * 4, none⟩ = some (.string (bitsV p.la)) ∧ W.cell? ⟨b, off + j * 4 + 1, none⟩ = some (.string (bitsV p.lb)) ∧ W.cell? ⟨b, off + j * 4 + 2, none⟩ = some (.int .i64 p.fr) ∧ W.cell? ⟨b, off + j * 4 + 3, none⟩ = some (.int .i64 (p.blk : Int)) := by
  obtain ⟨b, off, p, hA, hp, hc, _⟩ := RowsAt.at_ h (fun _ => rfl) hj
  exact ⟨b, off, p, hA, hp, hc 0 _ rfl, hc 1 _ rfl, hc 2 _ rfl, hc 3 _ rfl⟩
theorem PairsAt.cell2 {pb off : Nat} {L : List PairI} {W : World} (h : PairsAt (some ⟨pb, off, none⟩) L W) {j : Nat} {p : PairI} (hp : L[j]? = some p) : W.cell? ⟨pb, off + j * 4 + 2, none⟩ = some (.int .i64 p.fr) := by
  obtain ⟨b, o, p', hA, hp', _, _, h2, _⟩ := h.at_ (List.getElem?_eq_some_iff.1 hp).1
  injection hA with hA
  injection hA with e1 e2 e3
  subst e1; subst e2
  obtain rfl := Option.some.inj (hp.symm.trans hp')
  exact h2
inductive WordAt (L : List PairI) : Nat → List Nat → Prop where
  | root {k : Nat} {p : PairI} (h : L[k]? = some p) (hf : p.fr = -1) : WordAt L k []
  | next {k j : Nat} {p : PairI} {w : List Nat} (h : L[k]? = some p) (hf : p.fr = (j : Int)) (hj : j < k) (hw : WordAt L j w) : WordAt L k (w ++ [p.blk])
def runeC (ls : List Int) (u : List Nat) : List Value := (u.map fun b => ls.getD b 0).map (Value.int .i32)
section
variable {w0 w : World} {F : World → Prop}
theorem way_st (hK : Hid (St w0 w F)) {pA lA : Option Addr} {L : List PairI} {ls : List Int} (hL : ∀ W, F W → PairsAt pA L W) (hls : ∀ W, F W → IntsAt lA ls W) (hr : ∀ x ∈ ls, 0 ≤ x ∧ x ≤ 1114111) (pc lc k : Nat) (wd : List Nat) (hw : WordAt L k wd) (hwb : ∀ b ∈ wd, b < ls.length) (hwl : wd.length < 1048576) (hk : k < 1073741824) :
    Calls Try.prog 12 #[.slice pA L.length pc, .int .i64 (k : Int), .slice lA ls.length lc] w (fun e w' => ∃ A c, e = .returned (.slice A wd.length c) ∧ Hid (w'.ownsRow w.heap.size 21 1 (.slice A wd.length c) wd.length (runeC ls wd)) ∧ Hid (Below w.heap.size w w')) := by
  obtain ⟨j0, ji, jz0, jz1, jz2⟩ := info_parts infoRn2
  have HL := Lib.hid hL
  have HLS := Lib.hid hls
  have HR := Lib.hid hr
  have HWB := Lib.hid hwb
  have HW := Lib.hid hw
  clear hL hls hr hwb hw
  go_enter Try.func12, Try.ntmps12
  go_wp2_with fail
  go_loopw [1, 7] (fun kv sv wr => ∃ (q : Nat) (v u : List Nat) (A : Option Addr) (c : Nat), q < 1073741824 ∧ kv = .int .i64 (q : Int) ∧ sv = .slice A u.length c ∧ Hid (WordAt L q v) ∧ Hid (wd = v ++ u.reverse) ∧ Hid (wr.ownsRow w.heap.size 21 1 (.slice A u.length c) u.length (runeC ls u)) ∧ Hid (Below w.heap.size w wr)) (fun kv _ _ => (intOf kv).toNat)
  case atStart => exact ⟨k, wd, [], none, 0, hk, rfl, rfl, HW, Lib.hid (by simp), Lib.hid (World.ownsRow_nil _ _ _ _), Lib.hid (Below.refl _ _)⟩
  case round =>
  obtain ⟨q, v, u, A, c, hq, rfl, rfl, HV, HE, HO, HB⟩ := hrel
  have HKr := Lib.hid (hK.out.step HB.out)
  have hul : u.length < 1048576 := by
    have := congrArg List.length HE.out
    rw [List.length_append, List.length_reverse] at this
    omega
  have hv := HV.out
  cases hv with
  | @root _ p0 h hf =>
    obtain ⟨pb, off, p, rfl, hx, c0, c1, c2, c3⟩ := (HL.out _ HKr.out.now).at_ (List.getElem?_eq_some_iff.1 h).1
    obtain rfl := Option.some.inj (h.symm.trans hx)
    rw [hf] at c2
    have hql := (List.getElem?_eq_some_iff.1 h).1
    have hqi : (q : Int) < (L.length : Int) := by omega
    clear h hx hf
    go_wp2_with fail
    have h := Reverse_any (base := w.heap.size) (A := A) (c := c) (u.map fun b => ls.getD b 0) wr HB.out.size (by rw [List.length_map]; exact HO) (by rw [List.length_map]; omega)
    rw [List.length_map] at h
    refine h.mono ?_
    clear h
    rintro e w2 ⟨rfl, HO2, HB2⟩
    have hwu : wd = u.reverse := by have := HE.out; simpa using this
    have hlu : wd.length = u.length := by rw [hwu, List.length_reverse]
    have HO3 : Hid (w2.ownsRow w.heap.size 21 1 (.slice A wd.length c) wd.length (runeC ls wd)) := Lib.hid (by
      rw [hlu, hwu]
      unfold runeC
      rw [List.map_reverse]
      exact HO2.out)
    have HB3 := Lib.hid (HB.out.trans HB2.out)
    have HLU := Lib.hid hlu
    clear hwu hlu c0 c1 c2 c3
    go_wp2_with fail
    go_ret
    exact ⟨A, c, by rw [HLU.out]; rfl, HO3, HB3⟩
  | @next _ j p0 wv h hf hj hw =>
    obtain ⟨pb, off, p, rfl, hx, c0, c1, c2, c3⟩ := (HL.out _ HKr.out.now).at_ (List.getElem?_eq_some_iff.1 h).1
    obtain rfl := Option.some.inj (h.symm.trans hx)
    rw [hf] at c2
    have hql := (List.getElem?_eq_some_iff.1 h).1
    have hqi : (q : Int) < (L.length : Int) := by omega
    have hbl : p0.blk < ls.length := HWB.out _ (by rw [HE.out]; simp)
    obtain ⟨lb, loff, x, rfl, hxl, _, cl⟩ := (HLS.out _ HKr.out.now).at_ hbl
    have hxr := HR.out x (List.mem_of_getElem? hxl)
    have hbli : (p0.blk : Int) < (ls.length : Int) := by omega
    have hwr : IntKind.i32.wrap x = x := by rw [IntKind.wrap_i32]; omega
    have hs0 := HB.out.size
    have hl40 : u.length < 1099511627776 := by omega
    have HXL := Lib.hid hxl
    have HH := Lib.hid h
    have HF := Lib.hid hf
    have HJ := Lib.hid hj
    have HWV := Lib.hid hw
    have hj0 : (0 : Int) ≤ (j : Int) := by omega
    clear h hx hf hj hw hxl
    go_wp2_with (at_builtin; go_must (refine wpList_pushG rfl _ _ 28 rfl w.heap.size 21 j0 _ 1 4 Try.underlying28 ji jz0 jz1 jz2 rfl (by decide) HO.out rfl [.int .i32 x] 21 (by first | rfl | (simp; rfl) | simp) rfl (by simp [Value.oneCell']) hl40 (by decide) hs0 ?_); intro A9 c9 w9 HO9 HG9 HN9; (have HBN : Hid (Below w.heap.size w w9) := Lib.hid ((HB.out.alloc hs0 _).grown HG9.out (by simp; omega) fun g hg => (HO.out.lt g (by rw [own_ownA]; exact hg)).1)); (have c29 : w9.cell? ⟨pb, off + q * 4 + 2, none⟩ = some (.int .i64 (j : Int)) := by have h9 := (HL.out w9 (hK.out.step HBN.out).now).cell2 HH.out; rwa [HF.out] at h9))
    have hlj := HJ.out
    have hlen : (u ++ [p0.blk]).length = u.length + 1 := by simp
    have HO10 : Hid (w9.ownsRow w.heap.size 21 1 (.slice A9 (u ++ [p0.blk]).length c9) (u ++ [p0.blk]).length (runeC ls (u ++ [p0.blk]))) := Lib.hid (by
      rw [hlen]
      have e : runeC ls (u ++ [p0.blk]) = runeC ls u ++ [.int .i32 x] := by
        unfold runeC
        rw [List.map_append, List.map_append]
        congr 1
        simp only [List.map_cons, List.map_nil]
        rw [List.getD_eq_getElem?_getD, HXL.out]; rfl
      rw [e]
      exact HO9.out)
    have HE2 : Hid (wd = wv ++ (u ++ [p0.blk]).reverse) := Lib.hid (by
      rw [HE.out, List.reverse_append, List.append_assoc]; rfl)
    exact ⟨⟨j, wv, u ++ [p0.blk], A9, c9, by omega, rfl, by rw [hlen], HWV, HE2, HO10, HBN⟩, by simp [intOf]; omega⟩
end
end Go.Proofs.Ytlmkokeapbleoaa
end
section
namespace Go.Proofs.Ytlmkokeapbleoaa
open Go.RowKit
open Pairs
theorem WordAt.mono {L M : List PairI} {k : Nat} {w : List Nat} (h : WordAt L k w) : WordAt (L ++ M) k w := by
  have up : ∀ {k : Nat} {p : PairI}, L[k]? = some p → (L ++ M)[k]? = some p := fun h => by rw [List.getElem?_append_left (List.getElem?_eq_some_iff.1 h).1]; exact h
  induction h with
  | root h hf => exact .root (up h) hf
  | next h hf hj hw ih => exact .next (up h) hf hj ih
structure PairOf (nx ny : Nat) (q : QP) (p : PairI) : Prop where
  a : BitsOf p.la q.1
  b : BitsOf p.lb q.2
  la : q.1.length = nx
  lb : q.2.length = ny
structure ListI (nx ny m : Nat) (PL : List (QP × List Nat)) (L : List PairI) : Prop where
  len : L.length = PL.length
  pair : ∀ (i : Nat) (e : QP × List Nat) (p : PairI), PL[i]? = some e → L[i]? = some p → PairOf nx ny e.1 p
  word : ∀ (i : Nat) (e : QP × List Nat), PL[i]? = some e → WordAt L i e.2 ∧ (∀ c ∈ e.2, c < m) ∧ e.2.length ≤ i
def keyP (p : PairI) : Value := keyV (bitsV p.la) (bitsV p.lb)
structure KeysI (L : List PairI) (M : List (Value × Value)) : Prop where
  into : ∀ x ∈ M, x.2 = .int .i64 1 ∧ ∃ p ∈ L, x.1 = keyP p
  of : ∀ p ∈ L, (keyP p, .int .i64 1) ∈ M
  len : M.length ≤ L.length
theorem PairOf.same {nx ny : Nat} {q r : QP} {p s : PairI} (h : PairOf nx ny q p) (k : PairOf nx ny r s) : keyP p = keyP s ↔ q = r := by
  constructor
  · intro e
    obtain ⟨e1, e2⟩ := keyV_inj e
    have e1 := bitsV_inj h.a k.a e1
    have e2 := bitsV_inj h.b k.b e2
    have a := h.a
    have b := h.b
    rw [e1] at a
    rw [e2] at b
    exact Prod.ext (a.same k.a (by rw [h.la, k.la])) (b.same k.b (by rw [h.lb, k.lb]))
  · rintro rfl
    unfold keyP
    rw [h.a.unique k.a, h.b.unique k.b]
theorem ListI.any {nx ny m : Nat} {PL : List (QP × List Nat)} {L : List PairI} (h : ListI nx ny m PL L) {q : QP} {p : PairI} (hp : PairOf nx ny q p) : (PL.any fun x => x.1 == q) = true ↔ ∃ s ∈ L, keyP s = keyP p := by
  rw [List.any_eq_true]
  constructor
  · rintro ⟨x, hx, e⟩
    obtain ⟨i, hi⟩ := List.getElem?_of_mem hx
    have hl : i < L.length := by rw [h.len]; exact (List.getElem?_eq_some_iff.1 hi).1
    have hs := List.getElem?_eq_getElem hl
    refine ⟨L[i], List.getElem_mem hl, ((h.pair i x _ hi hs).same hp).2 ?_⟩
    simpa using e
  · rintro ⟨s, hs, e⟩
    obtain ⟨i, hi⟩ := List.getElem?_of_mem hs
    have hl : i < PL.length := by rw [← h.len]; exact (List.getElem?_eq_some_iff.1 hi).1
    have hx := List.getElem?_eq_getElem hl
    refine ⟨PL[i], List.getElem_mem hl, ?_⟩
    have := ((h.pair i _ _ hx hi).same hp).1 e
    simpa using this
theorem ListI.push {nx ny m : Nat} {PL : List (QP × List Nat)} {L : List PairI} (h : ListI nx ny m PL L) {k c : Nat} {e : QP × List Nat} (he : PL[k]? = some e) (hc : c < m) {q : QP} {la lb : List Nat} (hp : PairOf nx ny q ⟨la, lb, (k : Int), c⟩) : ListI nx ny m (PL ++ [(q, e.2 ++ [c])]) (L ++ [⟨la, lb, (k : Int), c⟩]) := by
  have hkl := (List.getElem?_eq_some_iff.1 he).1
  have hw := h.word k e he
  refine ⟨by simp [h.len], fun i x p hx hpi => ?_, fun i x hx => ?_⟩
  · rcases Nat.lt_or_ge i PL.length with hi | hi
    · rw [List.getElem?_append_left hi] at hx
      rw [List.getElem?_append_left (by rw [h.len]; exact hi)] at hpi
      exact h.pair i x p hx hpi
    · have e0 : i = PL.length := by
        have := (List.getElem?_eq_some_iff.1 hx).1
        simp at this; omega
      subst e0
      rw [List.getElem?_append_right (Nat.le_refl _)] at hx
      rw [List.getElem?_append_right (by rw [h.len]; exact Nat.le_refl _)] at hpi
      simp [h.len] at hx hpi
      subst hx; subst hpi
      exact hp
  · rcases Nat.lt_or_ge i PL.length with hi | hi
    · rw [List.getElem?_append_left hi] at hx
      obtain ⟨h1, h2⟩ := h.word i x hx
      exact ⟨h1.mono, h2⟩
    · have e0 : i = PL.length := by
        have := (List.getElem?_eq_some_iff.1 hx).1
        simp at this; omega
      subst e0
      rw [List.getElem?_append_right (Nat.le_refl _)] at hx
      simp at hx
      subst hx
      refine ⟨?_, fun d hd => ?_, by simp; omega⟩
      · have h3 : (L ++ [(⟨la, lb, (k : Int), c⟩ : PairI)])[PL.length]? = some ⟨la, lb, (k : Int), c⟩ := by
          rw [List.getElem?_append_right (by rw [h.len]; exact Nat.le_refl _)]
          simp [h.len]
        exact .next h3 rfl hkl hw.1.mono
      · rcases List.mem_append.1 hd with hd | hd
        · exact hw.2.1 d hd
        · rw [List.mem_singleton] at hd; subst hd; exact hc
theorem ListI.first {nx ny m : Nat} {q : QP} {la lb : List Nat} (hp : PairOf nx ny q ⟨la, lb, -1, 0⟩) : ListI nx ny m [(q, [])] [⟨la, lb, -1, 0⟩] := by
  refine ⟨rfl, fun i x p hx hpi => ?_, fun i x hx => ?_⟩
  · have hi := (List.getElem?_eq_some_iff.1 hx).1
    simp at hi; subst hi
    simp at hx hpi
    subst hx; subst hpi
    exact hp
  · have hi := (List.getElem?_eq_some_iff.1 hx).1
    simp at hi; subst hi
    simp at hx
    subst hx
    exact ⟨.root (p := ⟨la, lb, -1, 0⟩) rfl rfl, by simp, Nat.le_refl _⟩
theorem goP_step {A B : DS} {m n f k : Nat} {PL : List (QP × List Nat)} {e : QP × List Nat} (he : PL[k]? = some e) (hk : k < n) (hd : diffP A B e.1 = false) : goP A B m n (f + 1) k PL = goP A B m n f (k + 1) (putsP A B e PL m) := by
  rw [goP]
  simp only [he]
  rw [if_neg (by omega), if_neg (by rw [hd]; simp)]
theorem goP_tells {A B : DS} {m n f k : Nat} {PL : List (QP × List Nat)} {e : QP × List Nat} (he : PL[k]? = some e) (hk : k < n) (hd : diffP A B e.1 = true) : goP A B m n (f + 1) k PL = .tells e.2 := by
  rw [goP]
  simp only [he]
  rw [if_neg (by omega), if_pos hd]
theorem goP_budget {A B : DS} {m n f k : Nat} {PL : List (QP × List Nat)} {e : QP × List Nat} (he : PL[k]? = some e) (hk : n ≤ k) : goP A B m n (f + 1) k PL = .budget := by
  rw [goP]
  simp only [he]
  rw [if_pos hk]
theorem goP_same {A B : DS} {m n f k : Nat} {PL : List (QP × List Nat)} (he : PL[k]? = none) : goP A B m n (f + 1) k PL = .same := by
  rw [goP]
  simp only [he]
theorem putsP_get {A B : DS} {e : QP × List Nat} {PL : List (QP × List Nat)} {k : Nat} (hk : k < PL.length) (m : Nat) : (putsP A B e PL m)[k]? = PL[k]? ∧ PL.length ≤ (putsP A B e PL m).length ∧ (putsP A B e PL m).length ≤ PL.length + m := by
  induction m with
  | zero => exact ⟨rfl, Nat.le_refl _, Nat.le_refl _⟩
  | succ m ih =>
    rw [putsP_succ]
    unfold putP
    split
    · exact ⟨ih.1, ih.2.1, by omega⟩
    · rw [List.getElem?_append_left (by omega)]
      refine ⟨ih.1, ?_, ?_⟩ <;> simp only [List.length_append, List.length_cons, List.length_nil] <;> omega
theorem KeysI.push {L : List PairI} {M : List (Value × Value)} (h : KeysI L M) (p : PairI) : KeysI (L ++ [p]) ((keyP p, .int .i64 1) :: M) := by
  refine ⟨fun x hx => ?_, fun q hq => ?_, by have := h.len; simp; omega⟩
  · rcases List.mem_cons.1 hx with rfl | hx
    · exact ⟨rfl, p, by simp, rfl⟩
    · obtain ⟨h1, q, hq, h2⟩ := h.into x hx
      exact ⟨h1, q, List.mem_append_left _ hq, h2⟩
  · rcases List.mem_append.1 hq with hq | hq
    · exact List.mem_cons_of_mem _ (h.of q hq)
    · rw [List.mem_singleton] at hq; subst hq
      exact List.mem_cons_self ..
end Go.Proofs.Ytlmkokeapbleoaa
end
section
namespace Go.Proofs.Ytlmkokeapbleoaa
open Go.RowKit
end Go.Proofs.Ytlmkokeapbleoaa
end
section
namespace Go.Proofs.Ytlmkokeapbleoaa
open Go.RowKit
end Go.Proofs.Ytlmkokeapbleoaa
end
section
namespace Go.Proofs.Ytlmkokeapbleoaa
open Go.RowKit Go.Shelf
def updB (b : Nat → Option Nat) (k x : Nat) : Nat → Option Nat := fun j => if j = k then some x else b j
section
variable {P : Program} {ops : Array Oper} {Q : Exit → Act → World → Prop} {md : Region.Mode} {S : World → Prop} {z : Nat}
end
structure MadeB (w0 : World) (obj : Nat → Obj) (b : Nat → Option Nat) (w : World) : Prop where
  bel : Below w0.heap.size w0 w
  at_ : ∀ k x, k < 5 → b k = some x → w0.heap.size ≤ x ∧ w.heap[x]? = some (obj k)
  dis : ∀ j k x, j < 5 → k < 5 → j ≠ k → b j = some x → b k ≠ some x
theorem MadeB.upd {w0 w : World} {obj : Nat → Obj} {b : Nat → Option Nat} (h : MadeB w0 obj b w) {k : Nat} (hk : k < 5) : MadeB w0 obj (updB b k w.heap.size) (w.alloc (obj k)) := by
  have hs := h.bel.size
  have hlt : ∀ j x, j < 5 → b j = some x → x < w.heap.size := fun j x hj hx => (Array.getElem?_eq_some_iff.1 (h.at_ j x hj hx).2).1
  refine ⟨h.bel.alloc hs _, fun j x hj hx => ?_, fun j i x hj hi hne hx hy => ?_⟩
  · unfold updB at hx
    split at hx
    · rename_i e
      injection hx with hx; subst hx; subst e
      exact ⟨hs, heap_alloc_new w _⟩
    · have h2 := h.at_ j x hj hx
      exact ⟨h2.1, (Below.heap_alloc _ _ _ (hlt j x hj hx)).trans h2.2⟩
  · unfold updB at hx hy
    split at hx
    · rename_i e
      injection hx with hx; subst hx
      rw [if_neg (by omega)] at hy
      have := hlt i _ hi hy
      omega
    · split at hy
      · injection hy with hy; subst hy
        have := hlt j _ hj hx
        omega
      · exact h.dis j i x hj hi hne hx hy
section
variable {P : Program} {ops : Array Oper} {Q : Exit → Act → World → Prop} {md : Region.Mode} {S : World → Prop} {z : Nat}
end
section
variable {P : Program} {o : Oper} {a : Act} {w w' : World} {K : Act → World → Prop} {Q : Exit → Act → World → Prop}
end
end Go.Proofs.Ytlmkokeapbleoaa
end
section
namespace Go.Proofs.Ytlmkokeapbleoaa
open Go.RowKit Go.Shelf
section
variable {P : Program} {ops : Array Oper} {Q : Exit → Act → World → Prop} {md : Region.Mode} {S : World → Prop} {z : Nat}
theorem wpAnyZ_ready2 {i j : Nat} {fuel : Nat} {listed : Array Bool} {a : Act} {w : World} {o o2 : Oper} (hr : Region.ready md ops listed = [i, j]) (ho : ops[i]? = some o) (ho2 : ops[j]? = some o2)
    (h : ∀ K' : Act → World → Prop, Shut (∀ a w, S w → (S w → wpAnyZ P md ops Q S z fuel (listed.setIfInBounds i true) a w) → K' a w) → if Region.wanted o (yielded ops a.tmps) = true then Oper.wp P o a w K' Q else K' (a.put o.dst undef) w)
    (h2 : ∀ K' : Act → World → Prop, Shut (∀ a w, S w → (S w → wpAnyZ P md ops Q S z fuel (listed.setIfInBounds j true) a w) → K' a w) → if Region.wanted o2 (yielded ops a.tmps) = true then Oper.wp P o2 a w K' Q else K' (a.put o2.dst undef) w) :
    wpAnyZ P md ops Q S z (fuel + 1) listed a w :=
  ⟨fun h0 => absurd (hr.symm.trans h0) (by simp), by
    rw [hr]
    intro k hk
    rcases List.mem_cons.1 hk with rfl | hk
    · exact wpOp_step ho (fun K' hK => h K' (fun a w hS hW => hK a w ⟨.inr hS, hW hS⟩))
    · rcases List.mem_singleton.1 hk with rfl
      exact wpOp_step ho2 (fun K' hK => h2 K' (fun a w hS hW => hK a w ⟨.inr hS, hW hS⟩))⟩
end
end Go.Proofs.Ytlmkokeapbleoaa
end
section
namespace Go.Proofs.Ytlmkokeapbleoaa
open Go.RowKit
structure PStage (z : Nat) (w5 u : World) (oa ob : Option Nat) (ox oy : Option SideI) : Prop where
  bel : Below z w5 u
  lez : z ≤ u.heap.size
  a : ∀ b, oa = some b → z ≤ b ∧ u.heap[b]? = some (.cells #[.slice none 0 0, .slice none 0 0] 50 (0, 0))
  b : ∀ b, ob = some b → z ≤ b ∧ u.heap[b]? = some (.cells #[.slice none 0 0, .slice none 0 0] 50 (0, 0))
  ne : ∀ b, oa = some b → ob ≠ some b
  x : ∀ s, ox = some s → ∀ V : World, (∀ j, z ≤ j → j < u.heap.size → oa ≠ some j → ob ≠ some j → V.heap[j]? = u.heap[j]?) → SideW s V
  y : ∀ s, oy = some s → ∀ V : World, (∀ j, z ≤ j → j < u.heap.size → oa ≠ some j → ob ≠ some j → V.heap[j]? = u.heap[j]?) → SideW s V
section
variable {z : Nat} {w5 u u' : World} {oa ob : Option Nat} {ox oy : Option SideI}
theorem PStage.start (w5 : World) : PStage w5.heap.size w5 w5 none none none none :=
  ⟨Below.refl _ _, Nat.le_refl _, fun b h => (by cases h), fun b h => (by cases h), fun b h => (by cases h), fun s h => (by cases h), fun s h => (by cases h)⟩
theorem PStage.drew (h : PStage z w5 u oa ob ox oy) : PStage z w5 u.drew oa ob ox oy := ⟨h.bel.drew, h.lez, h.a, h.b, h.ne, h.x, h.y⟩
theorem PStage.lta (h : PStage z w5 u oa ob ox oy) {b : Nat} (hb : oa = some b) : b < u.heap.size := (Array.getElem?_eq_some_iff.1 (h.a b hb).2).1
theorem PStage.ltb (h : PStage z w5 u oa ob ox oy) {b : Nat} (hb : ob = some b) : b < u.heap.size := (Array.getElem?_eq_some_iff.1 (h.b b hb).2).1
theorem PStage.alloc_a (h : PStage z w5 u none ob ox oy) : PStage z w5 (u.alloc (.cells #[.slice none 0 0, .slice none 0 0] 50)) (some u.heap.size) ob ox oy := by
  have hs : (u.alloc (.cells #[.slice none 0 0, .slice none 0 0] 50)).heap.size = u.heap.size + 1 := by simp
  have hg : ∀ s, (∀ V : World, (∀ j, z ≤ j → j < u.heap.size → none ≠ some j → ob ≠ some j → V.heap[j]? = u.heap[j]?) → SideW s V) → ∀ V : World, (∀ j, z ≤ j → j < (u.alloc (.cells #[.slice none 0 0, .slice none 0 0] 50)).heap.size → some u.heap.size ≠ some j → ob ≠ some j → V.heap[j]? = (u.alloc (.cells #[.slice none 0 0, .slice none 0 0] 50)).heap[j]?) → SideW s V := fun s hs2 V hV =>
    hs2 V fun j h1 h2 _ h4 => (hV j h1 (by omega) (fun e => by injection e with e; omega) h4).trans (Below.heap_alloc _ _ _ h2)
  refine ⟨h.bel.alloc h.lez _, by rw [hs]; have := h.lez; omega, fun b hb => ?_, fun b hb => ⟨(h.b b hb).1, (Below.heap_alloc _ _ _ (h.ltb hb)).trans (h.b b hb).2⟩, fun b hb hb2 => ?_, fun s hs2 => hg s (h.x s hs2), fun s hs2 => hg s (h.y s hs2)⟩
  · injection hb with hb
    subst hb
    exact ⟨h.lez, heap_alloc_new u _⟩
  · injection hb with hb
    have := h.ltb hb2
    omega
theorem PStage.alloc_b (h : PStage z w5 u oa none ox oy) : PStage z w5 (u.alloc (.cells #[.slice none 0 0, .slice none 0 0] 50)) oa (some u.heap.size) ox oy := by
  have hs : (u.alloc (.cells #[.slice none 0 0, .slice none 0 0] 50)).heap.size = u.heap.size + 1 := by simp
  have hg : ∀ s, (∀ V : World, (∀ j, z ≤ j → j < u.heap.size → oa ≠ some j → none ≠ some j → V.heap[j]? = u.heap[j]?) → SideW s V) → ∀ V : World, (∀ j, z ≤ j → j < (u.alloc (.cells #[.slice none 0 0, .slice none 0 0] 50)).heap.size → oa ≠ some j → some u.heap.size ≠ some j → V.heap[j]? = (u.alloc (.cells #[.slice none 0 0, .slice none 0 0] 50)).heap[j]?) → SideW s V := fun s hs2 V hV =>
    hs2 V fun j h1 h2 h3 _ => (hV j h1 (by omega) h3 (fun e => by injection e with e; omega)).trans (Below.heap_alloc _ _ _ h2)
  refine ⟨h.bel.alloc h.lez _, by rw [hs]; have := h.lez; omega, fun b hb => ⟨(h.a b hb).1, (Below.heap_alloc _ _ _ (h.lta hb)).trans (h.a b hb).2⟩, fun b hb => ?_, fun b hb hb2 => ?_, fun s hs2 => hg s (h.x s hs2), fun s hs2 => hg s (h.y s hs2)⟩
  · injection hb with hb
    subst hb
    exact ⟨h.lez, heap_alloc_new u _⟩
  · injection hb2 with hb2
    have := h.lta hb
    omega
theorem PStage.call_x (h : PStage z w5 u oa ob none oy) (hb : Below u.heap.size u u') {s : SideI} (hD : ∀ V : World, (∀ j, u.heap.size ≤ j → j < u'.heap.size → V.heap[j]? = u'.heap[j]?) → SideW s V) : PStage z w5 u' oa ob (some s) oy := by
  have hs := hb.size
  refine ⟨h.bel.trans (hb.mono h.lez), Nat.le_trans h.lez hs, fun b hb2 => ⟨(h.a b hb2).1, (hb.block b (h.lta hb2)).trans (h.a b hb2).2⟩, fun b hb2 => ⟨(h.b b hb2).1, (hb.block b (h.ltb hb2)).trans (h.b b hb2).2⟩, h.ne, fun t ht V hV => ?_, fun t ht V hV => ?_⟩
  · injection ht with ht
    subst ht
    exact hD V fun j h1 h2 => hV j (Nat.le_trans h.lez h1) h2 (fun e => by have := h.lta e; omega) (fun e => by have := h.ltb e; omega)
  · exact h.y t ht V fun j h1 h2 h3 h4 => (hV j h1 (by omega) h3 h4).trans (hb.block j h2)
theorem PStage.call_y (h : PStage z w5 u oa ob ox none) (hb : Below u.heap.size u u') {s : SideI} (hD : ∀ V : World, (∀ j, u.heap.size ≤ j → j < u'.heap.size → V.heap[j]? = u'.heap[j]?) → SideW s V) : PStage z w5 u' oa ob ox (some s) := by
  have hs := hb.size
  refine ⟨h.bel.trans (hb.mono h.lez), Nat.le_trans h.lez hs, fun b hb2 => ⟨(h.a b hb2).1, (hb.block b (h.lta hb2)).trans (h.a b hb2).2⟩, fun b hb2 => ⟨(h.b b hb2).1, (hb.block b (h.ltb hb2)).trans (h.b b hb2).2⟩, h.ne, fun t ht V hV => ?_, fun t ht V hV => ?_⟩
  · exact h.x t ht V fun j h1 h2 h3 h4 => (hV j h1 (by omega) h3 h4).trans (hb.block j h2)
  · injection ht with ht
    subst ht
    exact hD V fun j h1 h2 => hV j (Nat.le_trans h.lez h1) h2 (fun e => by have := h.lta e; omega) (fun e => by have := h.ltb e; omega)
def sideC (s : SideI) : List Value := [.slice s.ta s.tos.length s.tc, .slice s.fa s.fin.length s.fc]
theorem PStage.put {b1 b2 : Nat} {sx sy : SideI} (h : PStage z w5 u (some b1) (some b2) (some sx) (some sy)) {w0 : World} {F : World → Prop} (hz : z = w5.heap.size) (hF : St w0 w5 F) (uE : World) (x0 x1 y0 y1 : Value)
    (hE : uE = ((((u.setCell ⟨b1, 0, none⟩ x0).setCell ⟨b1, 1, none⟩ x1).setCell ⟨b2, 0, none⟩ y0).setCell ⟨b2, 1, none⟩ y1)) (hx : sideC sx = [x0, x1]) (hy : sideC sy = [y0, y1]) :
    St w0 uE (fun W => BoxC b1 (sideC sx) W ∧ BoxC b2 (sideC sy) W ∧ SideW sx W ∧ SideW sy W ∧ F W) ∧ z ≤ uE.heap.size ∧ Below z w5 uE := by
  have hne : b1 ≠ b2 := fun e => h.ne b1 rfl (by rw [e])
  have h1 := (h.a b1 rfl).2
  have h2 := (h.b b2 rfl).2
  have hz1 := (h.a b1 rfl).1
  have hz2 := (h.b b2 rfl).1
  have e1 : uE.heap[b1]? = some (.cells #[x0, x1] 50 (0, 0)) := by
    rw [hE]
    exact (heap_setCell_other _ _ _ _ hne).trans ((heap_setCell_other _ _ _ _ hne).trans (heap_setCell_same _ b1 1 _ _ _ (heap_setCell_same u b1 0 _ _ _ h1)))
  have e2 : uE.heap[b2]? = some (.cells #[y0, y1] 50 (0, 0)) := by
    rw [hE]
    exact heap_setCell_same _ b2 1 _ _ _ (heap_setCell_same _ b2 0 _ _ _ ((heap_setCell_other _ _ _ _ (Ne.symm hne)).trans ((heap_setCell_other _ _ _ _ (Ne.symm hne)).trans h2)))
  have eo : ∀ j, j ≠ b1 → j ≠ b2 → uE.heap[j]? = u.heap[j]? := fun j hj1 hj2 => by
    rw [hE]
    exact (heap_setCell_other _ _ _ _ hj2).trans ((heap_setCell_other _ _ _ _ hj2).trans ((heap_setCell_other _ _ _ _ hj1).trans (heap_setCell_other _ _ _ _ hj1)))
  have es : uE.heap.size = u.heap.size := by rw [hE]; simp
  have hB : Below z w5 uE := by
    rw [hE]
    exact ((((h.bel.setCell (p := ⟨b1, 0, none⟩) hz1 _).setCell (p := ⟨b1, 1, none⟩) hz1 _).setCell (p := ⟨b2, 0, none⟩) hz2 _).setCell (p := ⟨b2, 1, none⟩) hz2 _)
  have l1 := h.lta (b := b1) rfl
  have l2 := h.ltb (b := b2) rfl
  have hlz := h.lez
  refine ⟨?_, by omega, hB⟩
  have hside : ∀ s, (∀ V : World, (∀ j, z ≤ j → j < u.heap.size → some b1 ≠ some j → some b2 ≠ some j → V.heap[j]? = u.heap[j]?) → SideW s V) → ∀ W, Below uE.heap.size uE W → SideW s W := fun s hs W hW =>
    hs W fun j k1 k2 k3 k4 => (hW.block j (by omega)).trans (eo j (fun e => k3 (by rw [e])) (fun e => k4 (by rw [e])))
  have hbox : ∀ (b : Nat) (c0 c1 : Value), b < u.heap.size → uE.heap[b]? = some (.cells #[c0, c1] 50 (0, 0)) → ∀ W, Below uE.heap.size uE W → BoxC b [c0, c1] W := fun b c0 c1 hb he W hW i v hv => by
    have e := (hW.block b (by omega)).trans he
    simp only [World.cell?, e]
    simpa using hv
  subst hz
  refine ⟨fun W hW => ⟨?_, ?_, hside sx (h.x sx rfl) W hW, hside sy (h.y sy rfl) W hW, (hF.step hB).1 W hW⟩, (hF.step hB).2⟩
  · rw [hx]; exact hbox b1 x0 x1 l1 e1 W hW
  · rw [hy]; exact hbox b2 y0 y1 l2 e2 W hW
end
theorem rep_normL_self {l : List Sp} (h : Plain l) : normL l = l := Rep.unique (normL_rep l).out (Rep.self h) (fun _ => Iff.rfl)
theorem parts_ne {s : List Sp} {L P : List (List Sp)} (hP : ∀ b ∈ P, b ≠ [] ∧ Plain b) : ∀ c ∈ parts s P L, c ≠ [] ∧ Plain c := by
  induction L generalizing P with
  | nil => exact hP
  | cons b L ih =>
    rw [parts]
    have key : ∀ (Q : List (List Sp)) (y : List Sp), Plain y → (∀ b ∈ Q, b ≠ [] ∧ Plain b) → ∀ c ∈ addL Q y, c ≠ [] ∧ Plain c := by
      intro Q y hy hQ c hc
      unfold addL at hc
      split at hc
      · exact hQ c hc
      · rename_i hne
        rcases List.mem_append.1 hc with hc | hc
        · exact hQ c hc
        · rw [List.mem_singleton] at hc
          subst hc
          exact ⟨hne, hy⟩
    exact ih (key _ _ (minusL_rep b s).out.1 (key _ _ (meetL_rep b s).out.1 hP))
theorem splitF_ne {fam : List (List Sp)} : ∀ {out P : List (List Sp)}, (∀ b ∈ out, b ≠ [] ∧ Plain b) → splitF out fam = some P → ∀ b ∈ P, b ≠ [] ∧ Plain b := by
  induction fam with
  | nil => intro out P h e; simp only [splitF] at e; injection e with e; subst e; exact h
  | cons s fam ih =>
    intro out P h e
    simp only [splitF] at e
    split at e
    · cases e
    · refine ih (fun b hb => ?_) e
      exact parts_ne (P := []) (fun b hb => by cases hb) b ((stabS_rel _).perm.mem_iff.1 hb)
theorem splitL_ne {r : List Sp} {fam P : List (List Sp)} (hr : Plain r) (h : splitL r fam = some P) : ∀ b ∈ P, b ≠ [] ∧ Plain b := by
  unfold splitL at h
  split at h
  · injection h with h
    subst h
    intro b hb; cases hb
  · rename_i hne
    exact splitF_ne (fun b hb => by rw [List.mem_singleton] at hb; subst hb; exact ⟨hne, hr⟩) h
theorem least_mem {b : List Sp} (hn : b ≠ []) (hp : Plain b) : Mem b (leastI b) := by
  unfold leastI
  rw [rep_normL_self hp]
  cases b with
  | nil => exact absurd rfl hn
  | cons p m =>
    have e : nthS (p :: m) 0 = some p.1 := by
      unfold nthS
      have h2 := hp.2.1
      rw [if_pos (by omega)]; simp
    rw [e]
    exact (hp.mem _).2 (.inl ⟨Int.le_refl _, hp.2.1⟩)
theorem least_sym {i : Int} {fam P : List (List Sp)} (h : splitL (domL i) fam = some P) : ∀ x ∈ P.map leastI, 0 ≤ x ∧ x ≤ 1114111 := by
  intro x hx
  obtain ⟨b, hb, rfl⟩ := List.mem_map.1 hx
  obtain ⟨h1, h2⟩ := splitL_ne (domL_plain i) h b hb
  have h3 := (splitL_blocks h).inr hb ((hasB_iff _ _).2 (least_mem h1 h2))
  have h4 := (inD_mem i _).1 ((hasB_iff _ _).1 h3)
  rw [inD_iff] at h4
  omega
noncomputable def sameAns (x y : DescI) (n : Int) (P : List (List Sp)) : Pairs.Ans := Pairs.sameP (toDS x (P.map leastI) x.n.toNat) (toDS y (P.map leastI) y.n.toNat) P.length n.toNat
def RetSame (w0 : World) (x y : DescI) (n : Int) (F : World → Prop) (e : Ending) (w' : World) : Prop :=
  (∃ v, BlkBad x y v ∧ e = .returned (.tuple #[.bool false, .slice none 0 0, .int .i64 v]) ∧ Hid (St w0 w' F)) ∨
  (BlkOk x y ∧ splitL (domL x.i) (bodies (famU (x.rs ++ y.rs))) = none ∧ e = .returned (.tuple #[.bool false, .slice none 0 0, .int .i64 4]) ∧ Hid (St w0 w' F)) ∨
  (BlkOk x y ∧ ∃ P, splitL (domL x.i) (bodies (famU (x.rs ++ y.rs))) = some P ∧ P.length ≤ 1024 ∧
    ((sameAns x y n P = .same ∧ e = .returned (.tuple #[.bool true, .slice none 0 0, .int .i64 0]) ∧ Hid (St w0 w' F)) ∨
     (sameAns x y n P = .budget ∧ e = .returned (.tuple #[.bool false, .slice none 0 0, .int .i64 3]) ∧ Hid (St w0 w' F)) ∨
     (∃ wd A c, sameAns x y n P = .tells wd ∧ e = .returned (.tuple #[.bool false, .slice A wd.length c, .int .i64 0]) ∧ (∀ b ∈ wd, b < P.length) ∧ wd.length ≤ 4096 ∧ Hid (St w0 w' (fun W => Sl W 1 A wd.length (runeC (P.map leastI) wd) ∧ F W)))))
end Go.Proofs.Ytlmkokeapbleoaa
end
section
namespace Go.Proofs.Ytlmkokeapbleoaa
open Go.RowKit
open Pairs
def letDS (n : Nat) (b : Bool) : DS := if b = true then roundP (n + 1) else lineP n
theorem let_DS (g1 g2 g3 : Nat) (A : Option Addr) (c n : Nat) (b : Bool) : toDS (letDI g3 A c n (letAll g1 g2 n b)) [0, 97] (n + 1) = letDS n b := by
  unfold letDS
  cases b
  · rw [if_neg (by simp)]; exact let_line _ _ _ _ _ _
  · rw [if_pos rfl]; exact let_round _ _ _ _ _ _
theorem let_ret {w0 w' : World} {x y : DescI} {F : World → Prop} {e : Ending} {g1 g2 g3 c1 h1 h2 h3 c2 n m : Nat} {A B : Option Addr} {a b : Bool} {k : Int}
    (hx : x = letDI g3 A c1 n (letRs g1 g2 n ++ if a = true then [letR g1 g2 (n : Int) 0] else [])) (hy : y = letDI h3 B c2 m (letRs h1 h2 m ++ if b = true then [letR h1 h2 (m : Int) 0] else []))
    (hn : n ≤ 1000) (hm : m ≤ 1000) (hp : 0 < (n + if a = true then 1 else 0) + (m + if b = true then 1 else 0)) (h : RetSame w0 x y k F e w') :
    (sameP (letDS n a) (letDS m b) 2 k.toNat = .same ∧ e = .returned (.tuple #[.bool true, .slice none 0 0, .int .i64 0]) ∧ Hid (St w0 w' F)) ∨
    (sameP (letDS n a) (letDS m b) 2 k.toNat = .budget ∧ e = .returned (.tuple #[.bool false, .slice none 0 0, .int .i64 3]) ∧ Hid (St w0 w' F)) ∨
    (∃ wd A c, sameP (letDS n a) (letDS m b) 2 k.toNat = .tells wd ∧ wd.length ≤ 4096 ∧ e = .returned (.tuple #[.bool false, .slice A wd.length c, .int .i64 0]) ∧ Hid (St w0 w' F)) := by
  have ex : x = letDI g3 A c1 n (letAll g1 g2 n a) := hx
  have ey : y = letDI h3 B c2 m (letAll h1 h2 m b) := hy
  have okx : DescOk x.L := by rw [ex]; exact let_ok _ _ _ _ _ _ _ hn
  have oky : DescOk y.L := by rw [ey]; exact let_ok _ _ _ _ _ _ _ hm
  have onx : OneI x := by rw [ex]; exact let_one _ _ _ _ _ _ _
  have ony : OneI y := by rw [ey]; exact let_one _ _ _ _ _ _ _
  have hi : x.i = 1 := by rw [ex]; rfl
  have hj : y.i = 1 := by rw [ey]; rfl
  have hnx : x.n.toNat = n + 1 := by rw [ex]; show ((n : Int) + 1).toNat = _; omega
  have hny : y.n.toNat = m + 1 := by rw [ey]; show ((m : Int) + 1).toNat = _; omega
  have hfam : bodies (famU (x.rs ++ y.rs)) = List.replicate ((n + if a = true then 1 else 0) + (m + if b = true then 1 else 0)) [((97 : Int), (97 : Int))] := by
    have e1 : bodies (famU (x.rs ++ y.rs)) = bodies (famU x.rs) ++ bodies (famU y.rs) := by unfold bodies famU; rw [List.map_append, List.map_append]
    rw [e1, ex, ey]
    show bodies (famU (letAll g1 g2 n a)) ++ bodies (famU (letAll h1 h2 m b)) = _
    rw [let_fam, let_fam, List.replicate_append_replicate]
  have hspl : splitL (domL x.i) (bodies (famU (x.rs ++ y.rs))) = some letP := by
    rw [hfam, hi]
    obtain ⟨q, hq⟩ : ∃ q, (n + if a = true then 1 else 0) + (m + if b = true then 1 else 0) = q + 1 := ⟨_, (Nat.succ_pred_eq_of_pos hp).symm⟩
    rw [hq]
    exact let_split q
  rcases h with ⟨v, hv, _, _⟩ | ⟨_, hS, _, _⟩ | ⟨_, P, hP, hPl, h⟩
  · rcases hv with ⟨_, h⟩ | ⟨_, _, h⟩
    · exact absurd ⟨okx, oky, by rw [hi, hj]⟩ h
    · exact absurd ⟨onx, ony⟩ h
  · rw [hspl] at hS; cases hS
  · rw [hspl] at hP
    injection hP with hP
    subst hP
    have hans : sameAns x y k letP = sameP (letDS n a) (letDS m b) 2 k.toNat := by
      unfold sameAns
      rw [let_least, hnx, hny, ex, ey, let_DS, let_DS]
      rfl
    rw [hans] at h
    rcases h with ⟨h1, h2, h3⟩ | ⟨h1, h2, h3⟩ | ⟨wd, A, c, h1, h2, _, h4, h3⟩
    · exact .inl ⟨h1, h2, h3⟩
    · exact .inr (.inl ⟨h1, h2, h3⟩)
    · exact .inr (.inr ⟨wd, A, c, h1, h4, h2, Lib.hid (h3.out.weaken fun W h => h.2)⟩)
end Go.Proofs.Ytlmkokeapbleoaa
end
