/- The words for a description that reads so many a, in memory. No function of the program in sight. Condition: none. Contract of chain.One. Condition: the description is known. Plain law: a description that reads so many a is right, and reads one symbol at a time. No program in sight. Condition: at most 1000 states. Plain law: a set of numbers as bytes, a bit each: which number is in it, a number more, two sets. No program in sight. Condition: none. Contracts of the packages word and umlautref02: In, Fits, Front, Compare. Condition: the slices that come in are no longer than an int can count. Contracts of the packages word and umlautref02: Front, Compare. Condition: the slices that come in are no longer than an int can count. Contract of word.Of: of any text the runes that a range over it tells. Condition: the text is shorter than 2^40 bytes. Contracts of word.Domain, umlautref02.Domain, umlautref02.Same. Condition: the slices that come in are no longer than an int can count. Contracts of word.Raw and word.Bytes. Condition: the slices that come in have fewer than 2^40 elements. Conversions between bytes and strings in the walk's spelling. Condition: none. Contract of umlautref02.Bytes: a scalar's bytes, none of what is none. Condition: the symbol is an int32. Contract of umlautlaw02.whole: do some scalar's bytes stand at a place of a text? Condition: the place lies in the text. Words for a description as subset's side in memory; a set of states as a string; contract of side.ends. Condition: the side is known. Contract of side.behind. Condition: the side is known. Contract of side.one. Condition: the side is known. -/
import Derived.Test.YtlmkokeapbleoaaR10
import Derived.Test.YtlmkokeapbleoaaR01
import Derived.Laws.StructEq
import Derived.OpenShut
import Derived.Laws.BytesArg
import Derived.Deep.RegionWith
import Derived.Lib.Strings
import Derived.Test.YtlmkokeapbleoaaR08
set_option maxRecDepth 100000
set_option maxHeartbeats 64000000
set_option linter.unusedVariables false
set_option linter.unusedSimpArgs false
section
namespace Go.Proofs.Ytlmkokeapbleoaa
open Go.RowKit
def letR (g1 g2 : Nat) (f t : Int) : RuleI := ⟨f, t, some ⟨g2, 0, none⟩, 1, [(some ⟨g1, 0, none⟩, 1, [(97, 97)])], 1, ⟨none, 0, []⟩⟩
def letRs (g1 g2 k : Nat) : List RuleI := (List.range k).map fun (i : Nat) => letR g1 g2 (i : Int) ((i : Int) + 1)
theorem letRs_succ (g1 g2 k : Nat) : letRs g1 g2 (k + 1) = letRs g1 g2 k ++ [letR g1 g2 (k : Int) ((k : Int) + 1)] := by unfold letRs; rw [List.range_succ, List.map_append]; rfl
def letDI (g3 : Nat) (A : Option Addr) (c n : Nat) (rs : List RuleI) : DescI := ⟨1, 1, (n : Int) + 1, 0, A, c, rs, some ⟨g3, 0, none⟩, 1, [⟨(n : Int), none, 0, [], ⟨none, 0, []⟩⟩]⟩
theorem let_W {W : World} {g1 g2 g3 n c : Nat} {A : Option Addr} {rs : List RuleI} (h1 : W.heap[g1]? = some (.cells #[.int .i64 97, .int .i64 97] 35 (0, 0))) (h2 : W.heap[g2]? = some (.cells #[.slice (some ⟨g1, 0, none⟩) 1 1] 36 (0, 0)))
    (h3 : W.heap[g3]? = some (.cells #[.int .i64 (n : Int), .slice none 0 0, .slice none 0 0] 40 (0, 0))) (hs : Sl W 5 A rs.length (rs.flatMap ruleC)) (hr : ∀ r ∈ rs, ∃ f t, r = letR g1 g2 f t ∧ I64 f ∧ I64 t) (hl : rs.length ≤ 2000) (hn : n ≤ 1000) : DescW (letDI g3 A c n rs) W := by
  have s1 := blk_sl (size := 2) (n := 1) h1 rfl
  have s2 := blk_sl (size := 1) (n := 1) h2 rfl
  have s3 := blk_sl (size := 3) (n := 1) h3 rfl
  have l1 : Lst (some ⟨g1, 0, none⟩) [(97, 97)] W := ⟨s1, spw_all (by intro p hp; simp at hp; subst hp; decide), by decide⟩
  have i1 : I64 1 := by unfold I64; decide
  have in0 : I64 (n : Int) := by unfold I64; omega
  have in1 : I64 ((n : Int) + 1) := by unfold I64; omega
  refine ⟨⟨i1, i1, in1, i64_0⟩, ⟨hs, fun r hm => ?_, by show rs.length ≤ 9223372036854775807; omega⟩, ⟨s3, fun f hf => ?_, by show 1 ≤ 9223372036854775807; omega⟩⟩
  · obtain ⟨f, t, rfl, hf, ht⟩ := hr r hm
    refine ⟨⟨hf, ht, i1⟩, ⟨⟨s2, fun i hi => ?_⟩, by show 1 ≤ 9223372036854775807; omega⟩, RowsAt.nil_ _ _ _ _ _⟩
    obtain rfl := List.mem_singleton.1 hi
    exact l1
  · obtain rfl := List.mem_singleton.1 hf
    exact ⟨in0, ⟨Items.nil_ _ _ _, by show 0 ≤ 9223372036854775807; omega⟩, RowsAt.nil_ _ _ _ _ _⟩
end Go.Proofs.Ytlmkokeapbleoaa
end
section
namespace Go.Proofs.Ytlmkokeapbleoaa
open Go.RowKit
section
variable {w0 w : World} {F : World → Prop}
theorem one1_st (hK : Hid (St w0 w F)) (r : RuleI) (hr : r.gs.length ≤ 9223372036854775807) (v : Bool) (hv : Hid (pB (r.gs.length ≠ 1) = v)) :
    Calls Try.prog 24 #[.agg #[.int .i64 r.fr, .int .i64 r.dst, .slice r.ga r.gs.length r.gc, .int .i64 r.e, .slice r.o.a r.o.l.length r.o.c]] w (RetV w0 (.bool v) F) := by
  have HK := St.box hK (ruleC r) 42
  simp only [ruleC] at HK
  by_cases h0 : r.gs.length = 1
  · have h1 : ((r.gs.length : Int) != 1) = false := by rw [h0]; rfl
    obtain rfl := pB_f hv (fun h => h h0)
    clear h0
    go_enter Try.func24, Try.ntmps24
    go_wp2_with fail
    go_ret
    exact ⟨rfl, Lib.hid (HK.out.weaken fun _ h => h.2)⟩
  · have h1 : ((r.gs.length : Int) != 1) = true := by
      rw [bne_iff_ne]
      omega
    obtain rfl := pB_t hv h0
    clear h0
    go_enter Try.func24, Try.ntmps24
    go_wp2_with fail
    go_ret
    exact ⟨rfl, Lib.hid (HK.out.weaken fun _ h => h.2)⟩
theorem one2_st (hK : Hid (St w0 w F)) (r : FinI) (hr : r.gs.length ≤ 9223372036854775807) (v : Bool) (hv : Hid (pB (r.gs ≠ []) = v)) :
    Calls Try.prog 26 #[.agg #[.int .i64 r.fr, .slice r.ga r.gs.length r.gc, .slice r.o.a r.o.l.length r.o.c]] w (RetV w0 (.bool v) F) := by
  have HK := St.box hK (finC r) 40
  simp only [finC] at HK
  by_cases h0 : r.gs = []
  · have h1 : decide (0 < r.gs.length) = false := by rw [h0]; rfl
    obtain rfl := pB_f hv (fun h => h h0)
    clear h0
    go_enter Try.func26, Try.ntmps26
    go_wp2_with fail
    go_ret
    exact ⟨rfl, Lib.hid (HK.out.weaken fun _ h => h.2)⟩
  · have h1 : decide (0 < r.gs.length) = true := by
      rw [decide_eq_true_iff]
      have : r.gs.length ≠ 0 := fun h => h0 (List.eq_nil_of_length_eq_zero h)
      omega
    obtain rfl := pB_t hv h0
    clear h0
    go_enter Try.func26, Try.ntmps26
    go_wp2_with fail
    go_ret
    exact ⟨rfl, Lib.hid (HK.out.weaken fun _ h => h.2)⟩
def OneR (rs : List RuleI) : Prop := ∀ r ∈ rs, r.gs.length = 1
def OneF (fs : List FinI) : Prop := ∀ f ∈ fs, f.gs = []
theorem indexO_st (hK : Hid (St w0 w F)) {ra : Option Addr} {rs : List RuleI} (hr : ∀ W, F W → RulesAt Lst ra rs W) (rc : Nat) (v : Bool) (hv : Hid (pB (OneR rs) = v)) :
    Calls Try.prog 36 #[.slice ra rs.length rc, .func (.func 24) #[] #[]] w (RetIx2 w0 v F) := by
  have HR := Lib.hid hr
  have hln := (hr _ hK.out.now).ln
  clear hr
  go_enter Try.func36, Try.ntmps36
  go_wp2_with fail
  go_loopw [8] (fun iv wr => ∃ m : Nat, m ≤ rs.length ∧ iv = .int .i64 m ∧ Hid (OneR (rs.take m)) ∧ Hid (St w0 wr F)) (fun iv _ => rs.length - (intOf iv).toNat)
  case atStart => exact ⟨0, Nat.zero_le _, rfl, Lib.hid (fun i hi => by simp at hi), hK⟩
  case round =>
  obtain ⟨m, hm, rfl, HF, HK⟩ := hrel
  by_cases hlt : m < rs.length
  · obtain ⟨rb, off, r, rfl, hx, hw, hd0, hd1, hd2, hd3, hd4⟩ := (HR.out _ HK.out.now).at_ hlt
    have HX := Lib.hid hx
    have hgl := hw.2.1.2
    obtain ⟨vr, HVR⟩ : ∃ vr, Hid (pB (r.gs.length ≠ 1) = vr) := ⟨_, rfl⟩
    have hmr : (m : Int) < (rs.length : Int) := by omega
    clear hx hw
    go_wp2_with fail
    refine (one1_st HK r hgl vr HVR).mono ?_
    rintro e w1 ⟨rfl, HK1⟩
    rcases vr with _ | _
    · have HN : Hid (OneR (rs.take (m + 1))) := Lib.hid fun q hq => by
        rw [take_snoc? HX.out] at hq
        rcases List.mem_append.1 hq with hq | hq
        · exact HF.out q hq
        · simp at hq; subst hq
          refine Classical.byContradiction fun h => ?_
          have := pB_true h
          rw [HVR.out] at this; cases this
      go_wp2_with fail
      exact ⟨⟨m + 1, by omega, by go_num, HN, HK1⟩, by simp [intOf]; omega⟩
    · obtain rfl := pB_f hv (fun h => pB_iff.1 HVR.out (h r (List.mem_of_getElem? HX.out)))
      go_wp2_with fail
      go_ret
      exact ⟨m, rfl, .inr ⟨rfl, by omega⟩, HK1⟩
  · obtain rfl : m = rs.length := by omega
    have hd : decide (rs.length < rs.length) = false := by simp
    obtain rfl := pB_t hv (by have := HF.out; rwa [List.take_length] at this)
    go_wp2_with fail
    go_ret
    exact ⟨-1, rfl, .inl ⟨rfl, rfl⟩, HK⟩
theorem containsO_st (hK : Hid (St w0 w F)) {ra : Option Addr} {rs : List RuleI} (hr : ∀ W, F W → RulesAt Lst ra rs W) (rc : Nat) (v : Bool) (hv : Hid (pB (OneR rs) = v)) :
    Calls Try.prog 23 #[.slice ra rs.length rc, .func (.func 24) #[] #[]] w (RetV w0 (.bool (!v)) F) := by
  go_enter Try.func23, Try.ntmps23
  go_wp2_with fail
  refine (indexO_st hK hr rc v hv).mono ?_
  rintro e w1 ⟨r, rfl, hr, HK1⟩
  rcases hr with ⟨rfl, rfl⟩ | ⟨rfl, hr⟩
  all_goals
    go_wp2_with fail
    go_ret
    exact ⟨rfl, HK1⟩
theorem indexF_st (hK : Hid (St w0 w F)) {ra : Option Addr} {rs : List FinI} (hr : ∀ W, F W → FinsAt Lst ra rs W) (rc : Nat) (v : Bool) (hv : Hid (pB (OneF rs) = v)) :
    Calls Try.prog 37 #[.slice ra rs.length rc, .func (.func 26) #[] #[]] w (RetIx2 w0 v F) := by
  have HR := Lib.hid hr
  have hln := (hr _ hK.out.now).ln
  clear hr
  go_enter Try.func37, Try.ntmps37
  go_wp2_with fail
  go_loopw [8] (fun iv wr => ∃ m : Nat, m ≤ rs.length ∧ iv = .int .i64 m ∧ Hid (OneF (rs.take m)) ∧ Hid (St w0 wr F)) (fun iv _ => rs.length - (intOf iv).toNat)
  case atStart => exact ⟨0, Nat.zero_le _, rfl, Lib.hid (fun i hi => by simp at hi), hK⟩
  case round =>
  obtain ⟨m, hm, rfl, HF, HK⟩ := hrel
  by_cases hlt : m < rs.length
  · obtain ⟨rb, off, r, rfl, hx, hw, hd0, hd1, hd2⟩ := (HR.out _ HK.out.now).at_ hlt
    have HX := Lib.hid hx
    have hgl := hw.2.1.2
    obtain ⟨vr, HVR⟩ : ∃ vr, Hid (pB (r.gs ≠ []) = vr) := ⟨_, rfl⟩
    have hmr : (m : Int) < (rs.length : Int) := by omega
    clear hx hw
    go_wp2_with fail
    refine (one2_st HK r hgl vr HVR).mono ?_
    rintro e w1 ⟨rfl, HK1⟩
    rcases vr with _ | _
    · have HN : Hid (OneF (rs.take (m + 1))) := Lib.hid fun q hq => by
        rw [take_snoc? HX.out] at hq
        rcases List.mem_append.1 hq with hq | hq
        · exact HF.out q hq
        · simp at hq; subst hq
          refine Classical.byContradiction fun h => ?_
          have := pB_true h
          rw [HVR.out] at this; cases this
      go_wp2_with fail
      exact ⟨⟨m + 1, by omega, by go_num, HN, HK1⟩, by simp [intOf]; omega⟩
    · obtain rfl := pB_f hv (fun h => pB_iff.1 HVR.out (h r (List.mem_of_getElem? HX.out)))
      go_wp2_with fail
      go_ret
      exact ⟨m, rfl, .inr ⟨rfl, by omega⟩, HK1⟩
  · obtain rfl : m = rs.length := by omega
    have hd : decide (rs.length < rs.length) = false := by simp
    obtain rfl := pB_t hv (by have := HF.out; rwa [List.take_length] at this)
    go_wp2_with fail
    go_ret
    exact ⟨-1, rfl, .inl ⟨rfl, rfl⟩, HK⟩
theorem containsF_st (hK : Hid (St w0 w F)) {ra : Option Addr} {rs : List FinI} (hr : ∀ W, F W → FinsAt Lst ra rs W) (rc : Nat) (v : Bool) (hv : Hid (pB (OneF rs) = v)) :
    Calls Try.prog 25 #[.slice ra rs.length rc, .func (.func 26) #[] #[]] w (RetV w0 (.bool (!v)) F) := by
  go_enter Try.func25, Try.ntmps25
  go_wp2_with fail
  refine (indexF_st hK hr rc v hv).mono ?_
  rintro e w1 ⟨r, rfl, hr, HK1⟩
  rcases hr with ⟨rfl, rfl⟩ | ⟨rfl, hr⟩
  all_goals
    go_wp2_with fail
    go_ret
    exact ⟨rfl, HK1⟩
def OneI (d : DescI) : Prop := OneR d.rs ∧ OneF d.fs
theorem One_st (hK : Hid (St w0 w F)) (d : DescI) (hd : ∀ W, F W → DescW d W) (v : Bool) (hv : Hid (pB (OneI d) = v)) :
    Calls Try.prog 15 #[.agg #[.int .i64 d.i, .int .i64 d.o, .int .i64 d.n, .int .i64 d.s, .slice d.ra d.rs.length d.rc, .slice d.fa d.fs.length d.fc]] w (RetV w0 (.bool v) F) := by
  have HK := St.box hK [.int .i64 d.i, .int .i64 d.o, .int .i64 d.n, .int .i64 d.s, .slice d.ra d.rs.length d.rc, .slice d.fa d.fs.length d.fc] 26
  have HD := Lib.hid hd
  have q4 := HK.out.now.1 4 _ rfl
  have q5 := HK.out.now.1 5 _ rfl
  clear hd
  obtain ⟨v1, hv1⟩ : ∃ v1, Hid (pB (OneR d.rs) = v1) := ⟨_, rfl⟩
  go_enter Try.func15, Try.ntmps15
  go_wp2_with fail
  refine (containsO_st HK (fun _ h => (HD.out _ h.2).rules) d.rc v1 hv1).mono ?_
  rintro e w1 ⟨rfl, HK1⟩
  rcases v1 with _ | _
  · obtain rfl := pB_f hv (fun h => by have := pB_true h.1; rw [hv1.out] at this; cases this)
    go_wp2_with fail
    go_ret
    exact ⟨rfl, Lib.hid (HK1.out.weaken fun _ h => h.2)⟩
  · have hv2 : Hid (pB (OneF d.fs) = v) := Lib.hid (by
      rw [← hv.out]
      exact pB_congr ⟨fun h => ⟨pB_iff.1 hv1.out, h⟩, fun h => h.2⟩)
    have q5' := HK1.out.now.1 5 _ rfl
    go_wp2_with fail
    refine (containsF_st HK1 (fun _ h => (HD.out _ h.2).fins) d.fc v hv2).mono ?_
    rintro e w2 ⟨rfl, HK2⟩
    go_wp2_with fail
    go_ret
    exact ⟨by simp, Lib.hid (HK2.out.weaken fun _ h => h.2)⟩
end
end Go.Proofs.Ytlmkokeapbleoaa
end
section
namespace Go.Proofs.Ytlmkokeapbleoaa
def letAll (g1 g2 n : Nat) (b : Bool) : List RuleI := letRs g1 g2 n ++ if b = true then [letR g1 g2 (n : Int) 0] else []
theorem letAll_mem {g1 g2 n : Nat} {b : Bool} {r : RuleI} (h : r ∈ letAll g1 g2 n b) : ∃ f t : Int, r = letR g1 g2 f t ∧ (0 ≤ f ∧ f < (n : Int) + 1) ∧ (0 ≤ t ∧ t < (n : Int) + 1) := by
  rcases List.mem_append.1 h with h | h
  · obtain ⟨i, hi, rfl⟩ := List.mem_map.1 h
    have := List.mem_range.1 hi
    exact ⟨_, _, rfl, by omega, by omega⟩
  · cases b with
    | false => simp at h
    | true =>
      simp at h
      subst h
      exact ⟨_, _, rfl, by omega, by omega⟩
theorem let_one (g1 g2 g3 : Nat) (A : Option Addr) (c n : Nat) (b : Bool) : OneI (letDI g3 A c n (letAll g1 g2 n b)) := by
  refine ⟨fun r hr => ?_, fun f hf => ?_⟩
  · obtain ⟨f, t, rfl, _, _⟩ := letAll_mem hr
    rfl
  · obtain rfl := List.mem_singleton.1 hf
    rfl
theorem let_ok (g1 g2 g3 : Nat) (A : Option Addr) (c n : Nat) (b : Bool) (hn : n ≤ 1000) : DescOk (letDI g3 A c n (letAll g1 g2 n b)).L := by
  have hl : (letAll g1 g2 n b).length ≤ n + 1 := by
    unfold letAll letRs
    rw [List.length_append, List.length_map, List.length_range]
    cases b <;> simp
  refine ⟨⟨.inl rfl, .inl rfl, by show (1 : Int) ≤ (n : Int) + 1; omega, by show (n : Int) + 1 ≤ 1024; omega, ⟨Int.le_refl _, by show (0 : Int) < (n : Int) + 1; omega⟩, by show ((letAll g1 g2 n b).map RuleI.L).length ≤ 4096; rw [List.length_map]; omega, by show (1 : Nat) ≤ 4096; omega⟩, fun r hr => ?_, fun f hf => ?_, ?_⟩
  · obtain ⟨r', hr', rfl⟩ := List.mem_map.1 hr
    obtain ⟨f, t, rfl, hf, ht⟩ := letAll_mem hr'
    refine ⟨hf, ht, ⟨by show (1 : Nat) ≤ 4; omega, fun g hg => ?_⟩, by show min ((1 : Nat) : Int) 1 ≤ 1; decide, by show (1 : Int) ≤ ((1 : Nat) : Int); decide, ⟨by show (0 : Nat) ≤ 64; omega, fun t ht => by cases ht⟩⟩
    obtain rfl := List.mem_singleton.1 hg
    refine ⟨by simp, by simp, by simp [Plain, PlainF], fun x hx => ?_⟩
    rw [show (letDI g3 A c n (letAll g1 g2 n b)).L.i = 1 from rfl, inD_iff]
    have h3 := ((show Plain [((97 : Int), (97 : Int))] by simp [Plain, PlainF]).mem x).1 hx
    simp [InS] at h3
    exact .inl ⟨rfl, by omega, by omega⟩
  · obtain rfl := List.mem_singleton.1 hf
    refine ⟨⟨by show (0 : Int) ≤ (n : Int); omega, by show (n : Int) < (n : Int) + 1; omega⟩, ⟨by show (0 : Nat) ≤ 4; omega, fun g hg => by cases hg⟩, ⟨by show (0 : Nat) ≤ 64; omega, fun t ht => by cases ht⟩⟩
  · refine cyc_none fun r hr => ?_
    obtain ⟨r', hr', rfl⟩ := List.mem_map.1 hr
    obtain ⟨f, t, rfl, _, _⟩ := letAll_mem hr'
    simp [RuleI.L, letR, bodies]
end Go.Proofs.Ytlmkokeapbleoaa
end
section
namespace Go.Proofs.Ytlmkokeapbleoaa
structure BitsOf (l : List Nat) (s : List Bool) : Prop where
  len : l.length = (s.length + 7) / 8
  lt : ∀ x ∈ l, x < 256
  bit : ∀ j x, l[j]? = some x → ∀ i, i < 8 → x.testBit i = s.getD (8 * j + i) false
theorem byte_ext {x y : Nat} (hx : x < 256) (hy : y < 256) (h : ∀ i, i < 8 → x.testBit i = y.testBit i) : x = y := by
  apply Nat.eq_of_testBit_eq
  intro i
  rcases Nat.lt_or_ge i 8 with hi | hi
  · exact h i hi
  · rw [Nat.testBit_lt_two_pow (Nat.lt_of_lt_of_le hx (Nat.pow_le_pow_right (by omega) hi : 2 ^ 8 ≤ 2 ^ i)), Nat.testBit_lt_two_pow (Nat.lt_of_lt_of_le hy (Nat.pow_le_pow_right (by omega) hi : 2 ^ 8 ≤ 2 ^ i))]
theorem BitsOf.unique {l m : List Nat} {s : List Bool} (h : BitsOf l s) (k : BitsOf m s) : l = m := by
  apply List.ext_getElem?
  intro j
  rcases Nat.lt_or_ge j l.length with hj | hj
  · have hk : j < m.length := by rw [k.len, ← h.len]; exact hj
    have e1 := List.getElem?_eq_getElem hj
    have e2 := List.getElem?_eq_getElem hk
    rw [e1, e2, byte_ext (h.lt _ (List.getElem_mem hj)) (k.lt _ (List.getElem_mem hk)) fun i hi => by rw [h.bit j _ e1 i hi, k.bit j _ e2 i hi]]
  · rw [List.getElem?_eq_none hj, List.getElem?_eq_none (by rw [k.len, ← h.len]; exact hj)]
theorem BitsOf.same {l : List Nat} {s t : List Bool} (h : BitsOf l s) (k : BitsOf l t) (hl : s.length = t.length) : s = t := by
  apply List.ext_getElem?
  intro q
  rcases Nat.lt_or_ge q s.length with hq | hq
  · have hj : q / 8 < l.length := by rw [h.len]; omega
    have e1 := List.getElem?_eq_getElem hj
    have a := h.bit _ _ e1 (q % 8) (Nat.mod_lt _ (by omega))
    have b := k.bit _ _ e1 (q % 8) (Nat.mod_lt _ (by omega))
    rw [a] at b
    rw [show 8 * (q / 8) + q % 8 = q by omega] at b
    rw [List.getD_eq_getElem?_getD, List.getD_eq_getElem?_getD, List.getElem?_eq_getElem hq, List.getElem?_eq_getElem (by omega : q < t.length)] at b
    rw [List.getElem?_eq_getElem hq, List.getElem?_eq_getElem (by omega : q < t.length)]
    simpa using b
  · rw [List.getElem?_eq_none hq, List.getElem?_eq_none (by omega)]
theorem BitsOf.none (n : Nat) : BitsOf (List.replicate ((n + 7) / 8) 0) (List.replicate n false) := by
  refine ⟨by simp, fun x hx => by rw [List.eq_of_mem_replicate hx]; decide, fun j x hx i hi => ?_⟩
  obtain ⟨hj, e⟩ := List.getElem?_eq_some_iff.1 hx
  rw [List.getElem_replicate] at e
  subst e
  rw [Nat.zero_testBit, List.getD_eq_getElem?_getD]
  rcases h : (List.replicate n false)[8 * j + i]? with _ | b
  · rfl
  · have := List.eq_of_mem_replicate (List.mem_of_getElem? h); subst this; rfl
theorem BitsOf.put {l : List Nat} {s : List Bool} (h : BitsOf l s) {q : Nat} (hq : q < s.length) {x : Nat} (hx : l[q / 8]? = some x) : BitsOf (l.set (q / 8) (x ||| 2 ^ (q % 8))) (s.set q true) := by
  have hm : q % 8 < 8 := Nat.mod_lt _ (by omega)
  have hjl := (List.getElem?_eq_some_iff.1 hx).1
  refine ⟨by simp [h.len], fun y hy => ?_, fun j y hy i hi => ?_⟩
  · rcases List.mem_or_eq_of_mem_set hy with hy | rfl
    · exact h.lt y hy
    · have h1 := h.lt x (List.mem_of_getElem? hx)
      exact Nat.or_lt_two_pow (n := 8) h1 (Nat.pow_lt_pow_right (by omega) hm)
  · by_cases hj : j = q / 8
    · subst hj
      rw [List.getElem?_set_self hjl] at hy
      injection hy with hy
      subst hy
      rw [Nat.testBit_or, h.bit _ _ hx i hi, Nat.testBit_two_pow, List.getD_eq_getElem?_getD, List.getD_eq_getElem?_getD]
      by_cases hiq : q % 8 = i
      · subst hiq
        rw [show 8 * (q / 8) + q % 8 = q by omega, List.getElem?_set_self hq]
        simp
      · rw [List.getElem?_set_ne (by omega)]
        simp [hiq]
    · rw [List.getElem?_set_ne (by omega)] at hy
      rw [h.bit _ _ hy i hi, List.getD_eq_getElem?_getD, List.getD_eq_getElem?_getD, List.getElem?_set_ne (by omega)]
theorem BitsOf.has {l : List Nat} {s : List Bool} (h : BitsOf l s) {q : Nat} (hq : q < s.length) {x : Nat} (hx : l[q / 8]? = some x) : (x / 2 ^ (q % 8) % 2 = 1 ↔ s[q] = true) := by
  have hb := h.bit _ _ hx (q % 8) (Nat.mod_lt _ (by omega))
  rw [show 8 * (q / 8) + q % 8 = q by omega, List.getD_eq_getElem?_getD, List.getElem?_eq_getElem hq, Option.getD_some] at hb
  rw [← hb, Nat.testBit_eq_decide_div_mod_eq]
  simp
end Go.Proofs.Ytlmkokeapbleoaa
end
section
namespace Go.Proofs.Ytlmkokeapbleoaa
open Go.RowKit
end Go.Proofs.Ytlmkokeapbleoaa
end
section
namespace Go.Proofs.Ytlmkokeapbleoaa
open Go.RowKit
def front : List Int → List Int → Nat
  | x :: xs, y :: ys => if x = y then front xs ys + 1 else 0
  | _, _ => 0
theorem front_nil_left (ys : List Int) : front [] ys = 0 := by unfold front; rfl
theorem front_nil_right (xs : List Int) : front xs [] = 0 := by cases xs <;> (unfold front; rfl)
theorem front_cons (x y : Int) (xs ys : List Int) : front (x :: xs) (y :: ys) = if x = y then front xs ys + 1 else 0 := by rw [front]
def Alk (xs ys : List Int) (k : Nat) : Prop := front xs ys = k + front (xs.drop k) (ys.drop k)
theorem Alk.zero (xs ys : List Int) : Alk xs ys 0 := by simp [Alk]
theorem Alk.step {xs ys : List Int} {k : Nat} {x : Int} (h : Alk xs ys k) (hx : xs[k]? = some x) (hy : ys[k]? = some x) : Alk xs ys (k + 1) := by
  unfold Alk at *
  rw [h, drop_cons? hx, drop_cons? hy, front_cons, if_pos rfl]; omega
theorem Alk.left {xs ys : List Int} {k : Nat} (h : Alk xs ys k) (hk : xs.length ≤ k) : front xs ys = k := by
  unfold Alk at *
  rw [h, List.drop_of_length_le hk, front_nil_left]; rfl
theorem Alk.right {xs ys : List Int} {k : Nat} (h : Alk xs ys k) (hk : ys.length ≤ k) : front xs ys = k := by
  unfold Alk at *
  rw [h, List.drop_of_length_le hk, front_nil_right]; rfl
end Go.Proofs.Ytlmkokeapbleoaa
end
section
namespace Go.Proofs.Ytlmkokeapbleoaa
open Go.RowKit
def decs (s : ByteArray) : Nat → Nat → List (Nat × Nat)
  | 0, _ => []
  | f + 1, pos => if pos < s.size then Utf8.decode s pos :: decs s f (pos + (Utf8.decode s pos).2) else []
def runesAt (s : ByteArray) (pos : Nat) : List (Nat × Nat) := decs s (s.size - pos) pos
def runes (s : ByteArray) : List Int := (runesAt s 0).map fun d => (d.1 : Int)
end Go.Proofs.Ytlmkokeapbleoaa
end
section
namespace Go.Proofs.Ytlmkokeapbleoaa
open Go.RowKit
end Go.Proofs.Ytlmkokeapbleoaa
end
section
namespace Go.Proofs.Ytlmkokeapbleoaa
open Go.RowKit
end Go.Proofs.Ytlmkokeapbleoaa
end
section
namespace Go.Proofs.Ytlmkokeapbleoaa
open Go.RowKit
theorem run_conv_str {P : Program} (w : World) (src e : TypeId) (hs : P.underlying src = some (.slice e)) (he : P.underlying e = some (.int .u8)) (A : Option Addr) (n c : Nat) (xs : List Int) (h : Ints .u8 w A n xs) (dst : TypeId) (hd : P.underlying dst = some .string) :
    (convert src dst (.slice A n c)).run P w = .ok (.string (strOfNums xs)) w := by
  rcases Nat.eq_zero_or_pos n with h0 | h0
  · subst h0
    have hx : xs = [] := List.eq_nil_of_length_eq_zero h.len
    subst hx
    cases A with
    | none =>
      rw [run_convert_bytes_nil w src e hs he 0 c dst hd]
      rfl
    | some a =>
      have hl : (loadCells a 0).run P w = .ok (([] : List Int).map (Value.int .u8)).toArray w := by
        have := run_loadCells_list (P := P) w a [] (fun j v hj => by simp at hj)
        simpa using this
      rw [run_convert_bytes_string w src dst e _ 0 c hs he hd, run_bytesToString w _ 0 c [] hl, foldl_push_bytes]
      rfl
  · obtain ⟨b, off, x0, rfl, _, _⟩ := h.at_ h0
    refine run_convert_bytes_arg w src e hs he b off n c xs h.len (fun i hi => ?_) dst hd
    obtain ⟨b', off', x, hA, hx, hc⟩ := h.at_ hi
    cases hA
    rw [hc, List.getD_eq_getElem?_getD, hx]; rfl
end Go.Proofs.Ytlmkokeapbleoaa
end
section
namespace Go.Proofs.Ytlmkokeapbleoaa
open Go.RowKit
theorem NewInts.lit {k : IntKind} {w : World} {l : List Int} (hl : l.length ≤ 1000) (t : TypeId) (n : Nat) (hn : n = l.length) (cs : Array Value) (hcs : cs.toList = l.map (Value.int k)) :
    NewInts k w l (.returned (.slice (some ⟨w.heap.size, 0, none⟩) n n)) (w.alloc (.cells cs t)) := by
  subst hn
  refine ⟨_, _, _, rfl, ⟨by simp, fun _ => ⟨_, _, rfl, fun j u hu => ?_⟩⟩, Nat.le_refl _, by omega, (Below.refl _ w).alloc (Nat.le_refl _) _⟩
  have hb : (w.alloc (.cells cs t)).heap[w.heap.size]? = some (.cells cs t (0, 0)) := heap_alloc_new w _
  simp only [World.cell?, hb]
  rw [← hcs] at hu
  simpa using hu
theorem NewInts.nil_ (k : IntKind) (w : World) : NewInts k w [] (.returned (.slice none 0 0)) w := ⟨_, _, _, rfl, Sl.nil_ _ _ _, Nat.le_refl _, by omega, Below.refl _ _⟩
end Go.Proofs.Ytlmkokeapbleoaa
end
section
namespace Go.Proofs.Ytlmkokeapbleoaa
open Go.RowKit
def bt (s : ByteArray) (k : Nat) : Int := if h : k < s.size then ((s[k]'h).toNat : Int) else 0
theorem bt_eq (s : ByteArray) (k : Nat) (h : k < s.size) : ((s[k]'h).toNat : Int) = bt s k := by unfold bt; rw [dif_pos h]
theorem run_index_bt (t : TypeId) (ht : Try.prog.underlying t = some .string) (s : ByteArray) (i : Int) (k : Nat) (hk : i = k) (h : k < s.size) (w : World) : (Instr.index t (.string s) (.int .i64 i)).run Try.prog w = .ok (.int .u8 (bt s k)) w := by
  subst hk
  rw [← bt_eq s k h]
  go_simp
end Go.Proofs.Ytlmkokeapbleoaa
end
section
namespace Go.Proofs.Ytlmkokeapbleoaa
open Go.RowKit
structure SideI where
  ta : Option Addr
  tc : Nat
  tos : List (Item (Item Int))
  fa : Option Addr
  fc : Nat
  fin : List Bool
structure SideW (s : SideI) (W : World) : Prop where
  tos : Items LLi s.ta s.tos.length s.tos W
  fin : Sl W 1 s.fa s.fin.length (s.fin.map Value.bool)
structure SideOk (s : SideI) : Prop where
  n : s.fin.length ≤ 1024
  m : s.tos.length ≤ 1025
  row : ∀ x ∈ s.tos, x.2.2.length = s.fin.length ∧ ∀ y ∈ x.2.2, y.2.2.length ≤ 8192 ∧ ∀ t ∈ y.2.2, 0 ≤ t ∧ t < s.fin.length
theorem LLi.lasts : Lasts LLi := fun A l w w' h hb => ⟨Items.below h.1 (fun A l w w' h hb => h.below hb) hb, h.2⟩
theorem SideW.below {s : SideI} {W W' : World} (h : SideW s W) (hb : Below W.heap.size W W') : SideW s W' := ⟨h.tos.below LLi.lasts hb, Sl.below (B := 0) h.fin hb⟩
def bitsV (l : List Nat) : ByteArray := strOfNums (l.map fun x : Nat => (x : Int))
theorem bitsV_size (l : List Nat) : (bitsV l).size = l.length := by unfold bitsV; rw [strOfNums_size, List.length_map]
theorem get_nums' (zs : List Int) (hz : ∀ z ∈ zs, 0 ≤ z ∧ z ≤ 255) (i : Nat) (hi : i < zs.length) (hs : i < (strOfNums zs).size) : ((strOfNums zs)[i].toNat : Int) = zs[i] := by
  have e2 : (strOfNums zs)[i] = UInt8.ofNat (zs[i]).toNat := by
    show (strOfNums zs).data[i]'_ = _
    simp [strOfNums]
  rw [e2, UInt8.toNat_ofNat']
  have := hz _ (List.getElem_mem hi)
  omega
theorem bitsV_bt {l : List Nat} {s : List Bool} (h : BitsOf l s) {j x : Nat} (hx : l[j]? = some x) : bt (bitsV l) j = (x : Int) := by
  have hj := (List.getElem?_eq_some_iff.1 hx).1
  have hlt := h.lt x (List.mem_of_getElem? hx)
  have hs : j < (bitsV l).size := by rw [bitsV_size]; exact hj
  have h1 := get_nums' (l.map fun x : Nat => (x : Int)) (fun z hz => by obtain ⟨y, hy, rfl⟩ := List.mem_map.1 hz; have := h.lt y hy; omega) j (by simpa using hj) hs
  unfold bt
  rw [dif_pos hs]
  refine h1.trans ?_
  rw [List.getElem_map]
  rw [List.getElem?_eq_getElem hj] at hx
  injection hx with hx
  rw [hx]
theorem and1 : ∀ a : Nat, a < 256 → bits .and .u8 (a : Int) 1 = ((a % 2 : Nat) : Int) := by decide +kernel
theorem or8 : ∀ a : Nat, a < 256 → ∀ m : Nat, m < 8 → bits .or .u8 (a : Int) ((2 : Int) ^ m % 256) = ((a ||| 2 ^ m : Nat) : Int) := by decide +kernel
theorem bit_at {l : List Nat} {s : List Bool} (h : BitsOf l s) {q x : Nat} (hq : q < s.length) (hx : l[q / 8]? = some x) : bits .and .u8 ((x : Int) / 2 ^ (q % 8)) 1 = if s.getD q false = true then 1 else 0 := by
  have h1 := h.has hq hx
  have hlt := h.lt x (List.mem_of_getElem? hx)
  have e : (x : Int) / 2 ^ (q % 8) = ((x / 2 ^ (q % 8) : Nat) : Int) := by rw [Int.natCast_ediv, Int.natCast_pow]; rfl
  rw [e, and1 _ (Nat.lt_of_le_of_lt (Nat.div_le_self _ _) hlt), List.getD_eq_getElem?_getD, List.getElem?_eq_getElem hq, Option.getD_some]
  by_cases hb : s[q] = true
  · rw [if_pos hb, h1.2 hb]; rfl
  · rw [if_neg hb]
    have : ¬ (x / 2 ^ (q % 8) % 2 = 1) := fun hh => hb (h1.1 hh)
    have h2 : x / 2 ^ (q % 8) % 2 = 0 := by omega
    rw [h2]; rfl
def endsI (fin q : List Bool) : Bool := (List.range fin.length).any fun t => fin.getD t false && q.getD t false
theorem run_set_at (l : List Nat) (s : List Bool) (h : BitsOf l s) (q : Nat) (x : Nat) (hx : l[q / 8]? = some x) (w : World) : (Instr.index 52 (.string (bitsV l)) (.int .i64 ((q : Int) / 8))).run Try.prog w = .ok (.int .u8 (x : Int)) w := by
  rw [run_index_bt 52 Try.underlying52 (bitsV l) _ (q / 8) (by omega) (by rw [bitsV_size]; exact (List.getElem?_eq_some_iff.1 hx).1), bitsV_bt h hx]
section
variable {w0 w : World} {F : World → Prop}
theorem ends_st (hK : Hid (St w0 w F)) (s : SideI) (hs : ∀ W, F W → SideW s W) (hok : Hid (SideOk s)) (l : List Nat) (q : List Bool) (hl : Hid (BitsOf l q)) (hql : q.length = s.fin.length) (v : Bool) (hv : Hid (endsI s.fin q = v)) :
    Calls Try.prog 11 #[.agg #[.slice s.ta s.tos.length s.tc, .slice s.fa s.fin.length s.fc], .string (bitsV l)] w (RetV w0 (.bool v) F) := by
  have HK1 := St.box hK [.slice s.ta s.tos.length s.tc, .slice s.fa s.fin.length s.fc] 50
  have HS := Lib.hid hs
  have HQL := Lib.hid hql
  have hn := hok.out.n
  have q1 := HK1.out.now.1 1 _ rfl
  clear hs hql
  go_enter Try.func11, Try.ntmps11
  go_wp2_with fail
  clear q1
  go_loopw [10] (fun iv wr => ∃ k : Nat, k ≤ s.fin.length ∧ iv = .int .i64 k ∧ Hid (∀ t, t < k → (s.fin.getD t false && q.getD t false) = false) ∧ Hid (St w0 wr F)) (fun iv _ => s.fin.length - (intOf iv).toNat)
  case atStart => exact ⟨0, Nat.zero_le _, rfl, Lib.hid (fun t ht => by omega), Lib.hid (HK1.out.weaken fun _ h => h.2)⟩
  case round =>
  clear HK1
  obtain ⟨k, hk, rfl, HN, HK⟩ := hrel
  by_cases hlt : k < s.fin.length
  · obtain ⟨fb, off, hA, hc⟩ := (HS.out _ HK.out.now).fin.2 (by omega)
    obtain ⟨y, hy⟩ : ∃ y, s.fin[k]? = some y := ⟨_, List.getElem?_eq_getElem hlt⟩
    have hcy := hc k (.bool y) (by rw [List.getElem?_map, hy]; rfl)
    rw [hA]
    have hkq : k < q.length := by rw [HQL.out]; exact hlt
    obtain ⟨x, hx⟩ : ∃ x, l[k / 8]? = some x := ⟨_, List.getElem?_eq_getElem (by rw [hl.out.len]; omega)⟩
    have hix := run_set_at l q hl.out k x hx
    have hbit := Lib.hid (bit_at hl.out hkq hx)
    have hx256 : x < 256 := hl.out.lt x (List.mem_of_getElem? hx)
    clear hx hc
    rcases y with _ | _
    · go_wp2_with fail
      exact ⟨⟨k + 1, by omega, by go_num, Lib.hid (fun t ht => by
        by_cases e : t = k
        · subst e; rw [List.getD_eq_getElem?_getD, hy]; rfl
        · exact HN.out t (by omega)), HK⟩, by simp [intOf]; omega⟩
    have hm0 : 0 ≤ (k : Int) % 8 := by omega
    have hm8 : (k : Int) % 8 ≤ 8 := by omega
    have hmt : ((k : Int) % 8).toNat = k % 8 := by omega
    rcases hc1 : q.getD k false with _ | _
    · have hb : (bits .and .u8 ((x : Int) / 2 ^ (k % 8)) 1 == 1) = false := by rw [hbit.out, hc1]; rfl
      go_wp2_with fail
      exact ⟨⟨k + 1, by omega, by go_num, Lib.hid (fun t ht => by
        by_cases e : t = k
        · subst e; rw [hc1, Bool.and_false]
        · exact HN.out t (by omega)), HK⟩, by simp [intOf]; omega⟩
    · have hb : (bits .and .u8 ((x : Int) / 2 ^ (k % 8)) 1 == 1) = true := by rw [hbit.out, hc1]; rfl
      obtain rfl : v = true := by
        rw [← hv.out]
        unfold endsI
        rw [List.any_eq_true]
        exact ⟨k, List.mem_range.2 hlt, by rw [hc1, List.getD_eq_getElem?_getD, hy]; rfl⟩
      go_wp2_with fail
      go_ret
      exact ⟨rfl, HK⟩
  obtain rfl : k = s.fin.length := by omega
  have hd : decide (s.fin.length < s.fin.length) = false := by simp
  obtain rfl : v = false := by
    rw [← hv.out]
    unfold endsI
    rw [Bool.eq_false_iff]
    intro h
    rw [List.any_eq_true] at h
    obtain ⟨t, ht, h⟩ := h
    rw [HN.out t (List.mem_range.1 ht)] at h
    cases h
  go_wp2_with fail
  go_ret
  exact ⟨rfl, HK⟩
end
end Go.Proofs.Ytlmkokeapbleoaa
end
section
namespace Go.Proofs.Ytlmkokeapbleoaa
open Go.RowKit
def setsB (a : List Bool) (l : List Int) : List Bool := l.foldl (fun a t => a.set t.toNat true) a
theorem setsB_snoc (a : List Bool) (l : List Int) (t : Int) : setsB a (l ++ [t]) = (setsB a l).set t.toNat true := by unfold setsB; rw [List.foldl_append]; rfl
theorem setsB_length (a : List Bool) (l : List Int) : (setsB a l).length = a.length := by
  unfold setsB
  induction l generalizing a with
  | nil => rfl
  | cons t l ih => rw [List.foldl_cons, ih]; simp
def behI (R : List (Item Int)) (q : List Bool) (n : Nat) : Nat → List Bool
  | 0 => List.replicate n false
  | k + 1 => if q.getD k false = true then setsB (behI R q n k) ((R.getD k (none, 0, [])).2.2) else behI R q n k
theorem behI_length (R : List (Item Int)) (q : List Bool) (n k : Nat) : (behI R q n k).length = n := by
  induction k with
  | zero => simp [behI]
  | succ k ih => unfold behI; split <;> simp [setsB_length, ih]
def RetSet (w0 : World) (S : List Bool) (F : World → Prop) (e : Ending) (w' : World) : Prop := ∃ l, Hid (BitsOf l S) ∧ e = .returned (.string (bitsV l)) ∧ Hid (St w0 w' F)
theorem infoByteS : (Try.prog.info? 5).map (fun i => (i.zero, i.size, i.bytes)) = some (some (.int .u8 0), 1, 1) := by kernel_rfl
def byteC (l : List Nat) : List Value := l.map fun x : Nat => Value.int .u8 (x : Int)
theorem byteC_set (l : List Nat) (j x : Nat) : (byteC l).set j (.int .u8 (x : Int)) = byteC (l.set j x) := by unfold byteC; rw [List.map_set]
theorem byteC_zero (n : Nat) : byteC (List.replicate n 0) = List.replicate n (.int .u8 0) := by unfold byteC; rw [List.map_replicate]; rfl
section
variable {w0 w : World} {F : World → Prop}
theorem behind_st (hK : Hid (St w0 w F)) (s : SideI) (hs : ∀ W, F W → SideW s W) (hok : Hid (SideOk s)) (l : List Nat) (q : List Bool) (hl : Hid (BitsOf l q)) (hql : q.length = s.fin.length) (b : Nat) (hb : b < s.tos.length) (R : List (Item Int)) (hR : Hid ((s.tos.getD b (none, 0, [])).2.2 = R)) :
    Calls Try.prog 13 #[.agg #[.slice s.ta s.tos.length s.tc, .slice s.fa s.fin.length s.fc], .string (bitsV l), .int .i64 (b : Int)] w (RetSet w0 (behI R q s.fin.length s.fin.length) F) := by
  have HK1 := St.box hK [.slice s.ta s.tos.length s.tc, .slice s.fa s.fin.length s.fc] 50
  have hs1 : (w.alloc (.cells [.slice s.ta s.tos.length s.tc, .slice s.fa s.fin.length s.fc].toArray 50)).heap.size = w.heap.size + 1 := by simp
  have HS := Lib.hid hs
  have HQL := Lib.hid hql
  have hn := hok.out.n
  have hm := hok.out.m
  have hlen : (bitsV l).size = (s.fin.length + 7) / 8 := by rw [bitsV_size, hl.out.len, hql]
  obtain ⟨N, hN⟩ : ∃ N, (s.fin.length + 7) / 8 = N := ⟨_, rfl⟩
  have HN := Lib.hid hN
  rw [hN] at hlen
  have hN1 : N ≤ 200 := by omega
  have hmk : ∀ w : World, (Instr.makeSlice 71 (.int .i64 (N : Int)) (.int .i64 (N : Int))).run Try.prog w = .ok (.slice (some ⟨w.heap.size, 0, none⟩) N N) (w.alloc (.cells (madeCells #[.int .u8 0] N) 5)) := fun w => run_make_row' 71 5 (.int .u8 0) 1 Try.underlying71 infoByteS rfl .i64 .i64 N (by omega) (by omega) w
  obtain ⟨w1, hw1⟩ : ∃ z, (w.alloc (.cells [.slice s.ta s.tos.length s.tc, .slice s.fa s.fin.length s.fc].toArray 50)) = z := ⟨_, rfl⟩
  rw [hw1] at HK1 hs1
  obtain ⟨w2, hw2⟩ : ∃ z, (w1.alloc (.cells (madeCells #[.int .u8 0] N) 5)) = z := ⟨_, rfl⟩
  have HK2 := Lib.hid (HK1.out.alloc (.cells (madeCells #[.int .u8 0] N) 5))
  have hbk := heap_alloc_new w1 (.cells (madeCells #[.int .u8 0] N) 5)
  rw [hs1] at hbk
  have HBB : Hid (∃ lb, BitsOf lb (behI R q s.fin.length 0) ∧ (w1.alloc (.cells (madeCells #[.int .u8 0] N) 5)).heap[w.heap.size + 1]? = some (.cells (byteC lb).toArray 5 (0, 0))) := Lib.hid ⟨_, BitsOf.none s.fin.length, by
    rw [hbk, byteC_zero, HN.out]
    congr 2
    apply Array.ext'
    rw [toList_madeCells_one]⟩
  have HB : Hid (Below (w.heap.size + 1) w1 w2) := Lib.hid (by rw [← hw2]; exact (Below.refl _ _).alloc (by omega) _)
  rw [hw2] at HBB HK2
  have q0 := HK2.out.now.1 0 _ rfl
  have q1 := HK2.out.now.1 1 _ rfl
  obtain ⟨x0, hx0⟩ : ∃ x0, s.tos[b]? = some x0 := ⟨_, List.getElem?_eq_getElem hb⟩
  have hxR : x0.2.2 = R := by rw [← hR.out, List.getD_eq_getElem?_getD, hx0]; rfl
  have hRok := hok.out.row x0 (List.mem_of_getElem? hx0)
  rw [hxR] at hRok
  obtain ⟨ra, rc, R'⟩ := x0
  simp only at hxR
  subst hxR
  have HX0 := Lib.hid hx0
  have HROK := Lib.hid hRok
  clear hs hql hN hR hbk hx0 hRok
  go_enter Try.func13, Try.ntmps13
  go_wp2_with fail
  clear q0 q1 hmk
  go_loopw [17] (fun iv wr => ∃ (k : Nat) (lb : List Nat), k ≤ s.fin.length ∧ iv = .int .i64 k ∧ Hid (BitsOf lb (behI R' q s.fin.length k)) ∧ Hid (wr.heap[w.heap.size + 1]? = some (.cells (byteC lb).toArray 5 (0, 0))) ∧ Hid (Below (w.heap.size + 1) w1 wr)) (fun iv _ => s.fin.length - (intOf iv).toNat)
  case atStart =>
    obtain ⟨lb, h1, h2⟩ := HBB.out
    exact ⟨0, lb, Nat.zero_le _, rfl, Lib.hid h1, Lib.hid h2, HB⟩
  case round =>
  clear HBB HB HK2
  obtain ⟨k, lb, hk, rfl, HBO, HBK, HBL⟩ := hrel
  have HKr : Hid (St w0 wr (fun W => BoxC w.heap.size [.slice s.ta s.tos.length s.tc, .slice s.fa s.fin.length s.fc] W ∧ F W)) := Lib.hid (HK1.out.step (by rw [hs1]; exact HBL.out))
  by_cases hlt : k < s.fin.length
  · have hkq : k < q.length := by rw [HQL.out]; exact hlt
    obtain ⟨x, hx⟩ : ∃ x, l[k / 8]? = some x := ⟨_, List.getElem?_eq_getElem (by rw [hl.out.len]; omega)⟩
    have hix := run_set_at l q hl.out k x hx
    have hbit := Lib.hid (bit_at hl.out hkq hx)
    have hx256 : x < 256 := hl.out.lt x (List.mem_of_getElem? hx)
    have hm0 : 0 ≤ (k : Int) % 8 := by omega
    have hm8 : (k : Int) % 8 ≤ 8 := by omega
    have hmt : ((k : Int) % 8).toNat = k % 8 := by omega
    clear hx
    rcases hc1 : q.getD k false with _ | _
    · have hb1 : (bits .and .u8 ((x : Int) / 2 ^ (k % 8)) 1 == 0) = true := by rw [hbit.out, hc1]; rfl
      have HB2 : Hid (BitsOf lb (behI R' q s.fin.length (k + 1))) := Lib.hid (by unfold behI; rw [if_neg (by rw [hc1]; simp)]; exact HBO.out)
      go_wp2_with fail
      exact ⟨⟨k + 1, lb, by omega, by go_num, HB2, HBK, HBL⟩, by simp [intOf]; omega⟩
    have hb1 : (bits .and .u8 ((x : Int) / 2 ^ (k % 8)) 1 == 0) = false := by rw [hbit.out, hc1]; rfl
    have q0 := HKr.out.now.1 0 _ rfl
    obtain ⟨tb, toff, ba, bc, bl, hA, hxx, hcx, hlx⟩ := (HS.out _ HKr.out.now.2).tos.at_ hb
    rw [HX0.out] at hxx
    injection hxx with hxx
    obtain ⟨rfl, rfl, rfl⟩ : ba = ra ∧ bc = rc ∧ bl = R' := by injection hxx with h1 h2; injection h2 with h2 h3; exact ⟨h1.symm, h2.symm, h3.symm⟩
    have hkR : k < bl.length := by have := HROK.out.1; omega
    obtain ⟨rb, roff, la, lc, ll, hA2, hxk, hck, hlk⟩ := hlx.1.at_ hkR
    rw [hA] at q0
    rw [hA2] at hcx
    have HLL := Lib.hid (HROK.out.2 _ (List.mem_of_getElem? hxk))
    have HXK := Lib.hid hxk
    have hll8 : ll.length ≤ 8192 := HLL.out.1
    have hbm : (b : Int) < (s.tos.length : Int) := by omega
    have hkRi : (k : Int) < (bl.length : Int) := by omega
    have HINT : Hid (∀ W, F W → IntsAt la ll W) := Lib.hid fun W hW => ((HS.out W hW).tos.it.at_ HX0.out).1.it.at_ hxk
    clear hlx hlk hxk hA
    go_wp2_with fail
    clear q0 hcx hck hix hb1
    go_loopw [38] (fun iv wv => ∃ (j : Nat) (lv : List Nat), j ≤ ll.length ∧ iv = .int .i64 j ∧ Hid (BitsOf lv (setsB (behI bl q s.fin.length k) (ll.take j))) ∧ Hid (wv.heap[w.heap.size + 1]? = some (.cells (byteC lv).toArray 5 (0, 0))) ∧ Hid (Below (w.heap.size + 1) w1 wv)) (fun iv _ => ll.length - (intOf iv).toNat)
    case atStart => exact ⟨0, lb, Nat.zero_le _, rfl, HBO, HBK, HBL⟩
    case round =>
    clear HBO HBK HBL HKr
    obtain ⟨j, lv, hj, rfl, HBO, HBK, HBL⟩ := hrel
    have HKv : Hid (St w0 wr (fun W => BoxC w.heap.size [.slice s.ta s.tos.length s.tc, .slice s.fa s.fin.length s.fc] W ∧ F W)) := Lib.hid (HK1.out.step (by rw [hs1]; exact HBL.out))
    by_cases hjl : j < ll.length
    · obtain ⟨ib, ioff, t, hA3, hxt, ht64, hct⟩ := (HINT.out _ HKv.out.now.2).at_ hjl
      have ht := HLL.out.2 t (List.mem_of_getElem? hxt)
      obtain ⟨tn, rfl⟩ : ∃ tn : Nat, t = (tn : Int) := Int.eq_ofNat_of_zero_le ht.1
      have htn : tn < s.fin.length := by omega
      have HXT := Lib.hid hxt
      have hlv : lv.length = N := by rw [HBO.out.len, setsB_length, behI_length]; exact HN.out
      obtain ⟨y, hy⟩ : ∃ y, lv[tn / 8]? = some y := ⟨_, List.getElem?_eq_getElem (by rw [hlv, ← HN.out]; omega)⟩
      have hy256 : y < 256 := HBO.out.lt y (List.mem_of_getElem? hy)
      have hcell : wr.cell? ⟨w.heap.size + 1, tn / 8, none⟩ = some (.int .u8 (y : Int)) := by
        have := HBK.out
        simp [World.cell?, this, byteC, hy]
      have hfr : wr.frozen? ⟨w.heap.size + 1, tn / 8, none⟩ = false := by
        have := HBK.out
        simp [World.frozen?, this]
      have hm0 : 0 ≤ (tn : Int) % 8 := by omega
      have hm8 : (tn : Int) % 8 ≤ 8 := by omega
      have hmt : ((tn : Int) % 8).toNat = tn % 8 := by omega
      have hd0 : 0 ≤ (tn : Int) / 8 := by omega
      have hdN : (tn : Int) / 8 < (N : Int) := by have := HN.out; omega
      have hdt : ((tn : Int) / 8).toNat = tn / 8 := by omega
      have hor := or8 y hy256 (tn % 8) (by omega)
      rw [hA3]
      have HBO2 : Hid (BitsOf (lv.set (tn / 8) (y ||| 2 ^ (tn % 8))) (setsB (behI bl q s.fin.length k) (ll.take (j + 1)))) := Lib.hid (by
        rw [take_snoc? HXT.out, setsB_snoc]
        exact HBO.out.put (by rw [setsB_length, behI_length]; exact htn) hy)
      clear hxt ht hy hlv
      go_wp2_with fail
      go_region
      (try rw [hor])
      have hblk : ((wr.setCell ⟨w.heap.size + 1, tn / 8, none⟩ (.int .u8 ((y ||| 2 ^ (tn % 8) : Nat) : Int))).drew).heap[w.heap.size + 1]? = some (.cells (byteC (lv.set (tn / 8) (y ||| 2 ^ (tn % 8)))).toArray 5 (0, 0)) := by
        refine (heap_setCell_same wr (w.heap.size + 1) (tn / 8) _ _ _ HBK.out).trans ?_
        rw [← byteC_set]
        simp only [List.setIfInBounds_toArray]
      have HB2 := Lib.hid hblk
      have HL2 : Hid (Below (w.heap.size + 1) w1 ((wr.setCell ⟨w.heap.size + 1, tn / 8, none⟩ (.int .u8 ((y ||| 2 ^ (tn % 8) : Nat) : Int))).drew)) := Lib.hid ((HBL.out.setCell (Nat.le_refl _) _).drew)
      clear hblk hcell hfr
      go_wp2_with fail
      exact ⟨⟨j + 1, _, by omega, by go_num, HBO2, HB2, HL2⟩, by simp [intOf]; omega⟩
    obtain rfl : j = ll.length := by omega
    have hd2 : decide (ll.length < ll.length) = false := by simp
    have HBO3 : Hid (BitsOf lv (behI bl q s.fin.length (k + 1))) := Lib.hid (by
      have h1 := HBO.out
      rw [List.take_length] at h1
      unfold behI
      rw [if_pos hc1, List.getD_eq_getElem?_getD, HXK.out]
      exact h1)
    go_wp2_with fail
    go_roundw
    case rel => exact ⟨k + 1, lv, by omega, by go_num, HBO3, HBK, HBL⟩
    case measure => simp [intOf]; omega
  obtain rfl : k = s.fin.length := by omega
  have hd : decide (s.fin.length < s.fin.length) = false := by simp
  have hlv : lb.length = N := by rw [HBO.out.len, behI_length]; exact HN.out
  have hcv := run_conv_str (P := Try.prog) wr 71 5 Try.underlying71 Try.underlying5 (some ⟨w.heap.size + 1, 0, none⟩) N N (lb.map fun x : Nat => (x : Int)) ⟨by simpa using hlv, fun _ => ⟨_, 0, rfl, fun j u hu => by
    have h1 := HBK.out
    rw [Nat.zero_add]
    simp only [World.cell?, h1]
    simpa [byteC] using hu⟩⟩ 52 Try.underlying52
  go_wp2_with fail
  go_ret
  exact ⟨lb, HBO, rfl, Lib.hid (HKr.out.weaken fun _ h => h.2)⟩
end
end Go.Proofs.Ytlmkokeapbleoaa
end
section
namespace Go.Proofs.Ytlmkokeapbleoaa
open Go.RowKit
section
variable {w0 w : World} {F : World → Prop}
theorem one_st (hK : Hid (St w0 w F)) (s : SideI) (hok : Hid (SideOk s)) (q : Nat) (hq : q < s.fin.length) :
    Calls Try.prog 10 #[.agg #[.slice s.ta s.tos.length s.tc, .slice s.fa s.fin.length s.fc], .int .i64 (q : Int)] w (RetSet w0 ((List.replicate s.fin.length false).set q true) F) := by
  have HK1 := St.box hK [.slice s.ta s.tos.length s.tc, .slice s.fa s.fin.length s.fc] 50
  have hs1 : (w.alloc (.cells [.slice s.ta s.tos.length s.tc, .slice s.fa s.fin.length s.fc].toArray 50)).heap.size = w.heap.size + 1 := by simp
  have hn := hok.out.n
  obtain ⟨N, hN⟩ : ∃ N, (s.fin.length + 7) / 8 = N := ⟨_, rfl⟩
  have HN := Lib.hid hN
  have hN1 : N ≤ 200 := by omega
  have hNi : ((s.fin.length : Int) + 7) / 8 = (N : Int) := by omega
  have hmk : ∀ w : World, (Instr.makeSlice 71 (.int .i64 (((s.fin.length : Int) + 7) / 8)) (.int .i64 (((s.fin.length : Int) + 7) / 8))).run Try.prog w = .ok (.slice (some ⟨w.heap.size, 0, none⟩) N N) (w.alloc (.cells (madeCells #[.int .u8 0] N) 5)) := fun w => by
    rw [hNi]
    exact run_make_row' 71 5 (.int .u8 0) 1 Try.underlying71 infoByteS rfl .i64 .i64 N (by omega) (by omega) w
  obtain ⟨w1, hw1⟩ : ∃ z, (w.alloc (.cells [.slice s.ta s.tos.length s.tc, .slice s.fa s.fin.length s.fc].toArray 50)) = z := ⟨_, rfl⟩
  rw [hw1] at HK1 hs1
  have q1 := HK1.out.now.1 1 _ rfl
  have hbk := heap_alloc_new w1 (.cells (madeCells #[.int .u8 0] N) 5)
  rw [hs1] at hbk
  have HK2 := Lib.hid (HK1.out.alloc (.cells (madeCells #[.int .u8 0] N) 5))
  obtain ⟨w2, hw2⟩ : ∃ z, (w1.alloc (.cells (madeCells #[.int .u8 0] N) 5)) = z := ⟨_, rfl⟩
  have HBL : Hid (Below (w.heap.size + 1) w1 w2) := Lib.hid (by rw [← hw2]; exact (Below.refl _ _).alloc (by omega) _)
  rw [hw2] at hbk
  have HBK : Hid (w2.heap[w.heap.size + 1]? = some (.cells (byteC (List.replicate N 0)).toArray 5 (0, 0))) := Lib.hid (by
    rw [hbk, byteC_zero]
    congr 2
    apply Array.ext'
    rw [toList_madeCells_one])
  have HBO : Hid (BitsOf (List.replicate N 0) (List.replicate s.fin.length false)) := Lib.hid (by rw [← HN.out]; exact BitsOf.none _)
  have hy : (List.replicate N 0)[q / 8]? = some 0 := by rw [List.getElem?_replicate, if_pos (by omega)]
  have hcell : w2.cell? ⟨w.heap.size + 1, q / 8, none⟩ = some (.int .u8 ((0 : Nat) : Int)) := by
    have := HBK.out
    simp only [World.cell?, this, byteC, List.getElem?_toArray, List.getElem?_map, hy]; rfl
  have hfr : w2.frozen? ⟨w.heap.size + 1, q / 8, none⟩ = false := by
    have := HBK.out
    simp [World.frozen?, this]
  have hm0 : 0 ≤ (q : Int) % 8 := by omega
  have hm8 : (q : Int) % 8 ≤ 8 := by omega
  have hmt : ((q : Int) % 8).toNat = q % 8 := by omega
  have hd0 : 0 ≤ (q : Int) / 8 := by omega
  have hdN : (q : Int) / 8 < (N : Int) := by omega
  have hdt : ((q : Int) / 8).toNat = q / 8 := by omega
  have hor : bits .or .u8 0 ((2 : Int) ^ (q % 8) % 256) = ((0 ||| 2 ^ (q % 8) : Nat) : Int) := or8 0 (by decide) (q % 8) (by omega)
  have HOR := Lib.hid hor
  have HBO2 : Hid (BitsOf ((List.replicate N 0).set (q / 8) (0 ||| 2 ^ (q % 8))) ((List.replicate s.fin.length false).set q true)) := Lib.hid (HBO.out.put (by simpa using hq) hy)
  clear hy hN hbk hNi HK2 hor
  go_enter Try.func10, Try.ntmps10
  go_wp2_with fail
  go_region
  rw [HOR.out]
  have hblk : ((w2.setCell ⟨w.heap.size + 1, q / 8, none⟩ (.int .u8 ((0 ||| 2 ^ (q % 8) : Nat) : Int))).drew).heap[w.heap.size + 1]? = some (.cells (byteC ((List.replicate N 0).set (q / 8) (0 ||| 2 ^ (q % 8)))).toArray 5 (0, 0)) := by
    refine (heap_setCell_same w2 (w.heap.size + 1) (q / 8) _ _ _ HBK.out).trans ?_
    rw [← byteC_set]
    simp only [List.setIfInBounds_toArray]
  have HL2 : Hid (Below (w.heap.size + 1) w1 ((w2.setCell ⟨w.heap.size + 1, q / 8, none⟩ (.int .u8 ((0 ||| 2 ^ (q % 8) : Nat) : Int))).drew)) := Lib.hid ((HBL.out.setCell (Nat.le_refl _) _).drew)
  have HK3 := Lib.hid (HK1.out.step (by rw [hs1]; exact HL2.out))
  obtain ⟨lb, hlb⟩ : ∃ z, (List.replicate N 0).set (q / 8) (0 ||| 2 ^ (q % 8)) = z := ⟨_, rfl⟩
  rw [hlb] at hblk HBO2
  obtain ⟨w3, hw3⟩ : ∃ z, ((w2.setCell ⟨w.heap.size + 1, q / 8, none⟩ (.int .u8 ((0 ||| 2 ^ (q % 8) : Nat) : Int))).drew) = z := ⟨_, rfl⟩
  rw [hw3] at hblk HK3
  rw [hw3]
  have hlv : lb.length = N := by rw [HBO2.out.len, List.length_set, List.length_replicate]; exact HN.out
  have hcv := run_conv_str (P := Try.prog) w3 71 5 Try.underlying71 Try.underlying5 (some ⟨w.heap.size + 1, 0, none⟩) N N (lb.map fun x : Nat => (x : Int)) ⟨by simpa using hlv, fun _ => ⟨_, 0, rfl, fun j u hu => by
    rw [Nat.zero_add]
    simp only [World.cell?, hblk]
    simpa [byteC] using hu⟩⟩ 52 Try.underlying52
  clear hblk hw3 hlb hcell hfr HL2
  go_wp2_with fail
  go_ret
  exact ⟨lb, HBO2, rfl, Lib.hid (HK3.out.weaken fun _ h => h.2)⟩
end
end Go.Proofs.Ytlmkokeapbleoaa
end
