/- Contracts of sole.Clash and sole.Sole. Condition: the description is known, its rules and finals are few. Contract of desc.Free. Condition: the description is known. The zero table: its cells, its allocation; the result of a function that returns a struct's cells and a number. No function of the program in sight. Condition: none. What table.Compile answers, in plain words. Condition: none. Plain law of a table that goes, byte by byte: chunks one behind the other, what a right table keeps, how much is written. No program in sight. Condition: none. Plain law: a right table is a machine that goes (chapter 19): where its numbers lead, what its acts eat and write. No program in sight. Condition: none. Plain law: the table of chapter 17's example: it is right, and what it does with "a" and "b". No program in sight. Condition: none. Plain law: what table.Compile answers to chapter 17's example. No program in sight. Condition: none. Chapter 17's example in memory: the two laws' own 'held'. Condition: none. Plain facts on what parting by one set after another makes: each number of the whole is in one block; a block's numbers are told apart by no set. No program in sight. Condition: none. Plain law: the bytes parted by any family make 256 blocks at most, and each byte has one. No program in sight. Condition: none. The maker's nodes: one more is laid; how many rules and finals have come. Condition: the maker is known. -/
import Derived.Test.YtlmkokeapbleoaaGreatT14
import Derived.Test.YtlmkokeapbleoaaGreatT07
import Derived.OwnWalk
import Derived.Test.YtlmkokeapbleoaaGreatT01
import Derived.Great.Walk
import Derived.Laws.BytesArg
import Derived.Laws.CopyOwn
import Derived.Test.YtlmkokeapbleoaaGreatT10
import Derived.Test.YtlmkokeapbleoaaGreatT13
import Derived.Test.YtlmkokeapbleoaaGreatT04
import Derived.Test.YtlmkokeapbleoaaGreatT12
set_option maxRecDepth 100000
set_option maxHeartbeats 64000000
set_option linter.unusedVariables false
set_option linter.unusedSimpArgs false
section
namespace Go.Proofs.YtlmkokeapbleoaaGreat
open Go.RowKit
def ruleO (r : RuleI) : OptI := ⟨r.fr, r.ga, r.gc, r.gs, false⟩
def finO (f : FinI) : OptI := ⟨f.fr, f.ga, f.gc, f.gs, true⟩
def optsI (d : DescI) : List OptI := d.rs.map ruleO ++ d.fs.map finO
def HasClash (l : List OptL) : Prop := ∃ (i k : Nat) (a b : OptL), i < k ∧ l[i]? = some a ∧ l[k]? = some b ∧ ClashP a b
def DClash (d : DescL) : Prop := HasClash (d.rules.map (fun r => ⟨r.fr, r.gs, false⟩) ++ d.fins.map (fun f => ⟨f.fr, f.gs, true⟩))
theorem optsI_L (d : DescI) : (optsI d).map OptI.L = d.L.rules.map (fun r => ⟨r.fr, r.gs, false⟩) ++ d.L.fins.map (fun f => ⟨f.fr, f.gs, true⟩) := by
  simp [optsI, DescI.L, List.map_map]; constructor <;> intros <;> rfl
def atF (l : List OptI) (m : Nat) (n : Int) : List Int := ((List.range m).filter fun j => ((l[j]?).map (·.fr)) == some n).map fun (j : Nat) => (j : Int)
theorem atF_snoc {l : List OptI} {m : Nat} {o : OptI} (h : l[m]? = some o) : atF l (m + 1) = putG (atF l m) o.fr (m : Int) := by
  funext n
  unfold atF putG
  rw [List.range_succ, List.filter_append, List.map_append]
  by_cases e : n = o.fr
  · subst e
    simp [h]
  · have : (o.fr == n) = false := by simpa using fun h => e h.symm
    simp [h, e]; intro h2; exact absurd h2.symm e
theorem atF_mem {l : List OptI} {m : Nat} {n x : Int} (h : x ∈ atF l m n) : ∃ j : Nat, x = j ∧ j < m ∧ ∃ o, l[j]? = some o ∧ o.fr = n := by
  unfold atF at h
  obtain ⟨j, hj, rfl⟩ := List.mem_map.1 h
  obtain ⟨h1, h2⟩ := List.mem_filter.1 hj
  refine ⟨j, rfl, List.mem_range.1 h1, ?_⟩
  rcases ho : l[j]? with _ | o
  · rw [ho] at h2; simp at h2
  · rw [ho] at h2; exact ⟨o, rfl, by simpa using h2⟩
theorem atF_has {l : List OptI} {m j : Nat} {o : OptI} (hj : j < m) (ho : l[j]? = some o) : (j : Int) ∈ atF l m o.fr := by
  unfold atF
  exact List.mem_map.2 ⟨j, List.mem_filter.2 ⟨List.mem_range.2 hj, by rw [ho]; simp⟩, rfl⟩
theorem infoOpt : (Tryz.prog.info? 246).map (fun i => (i.zero, i.size, i.bytes)) = some (some (.agg #[.int .i64 0, .slice none 0 0, .bool false]), 3, 40) := by kernel_rfl
def TrueR {α : Type} (_ : α) (_ : World) : Prop := True
section
variable {w0 w : World} {F : World → Prop}
theorem Clash_st (hK : Hid (St w0 w F)) (d : DescI) (hd : ∀ W, F W → DescW d W) (hr4 : d.rs.length ≤ 4096) (hf4 : d.fs.length ≤ 4096) (v : Bool) (hv : Hid (pB (DClash d.L) = v)) :
    Calls Tryz.prog 123 #[.agg #[.int .i64 d.i, .int .i64 d.o, .int .i64 d.n, .int .i64 d.s, .slice d.ra d.rs.length d.rc, .slice d.fa d.fs.length d.fc]] w (fun e w' => ∃ x y : Int, RetV w0 (.tuple #[.int .i64 x, .int .i64 y, .bool v]) F e w') := by
  have HRU : Hid (∀ W, F W → RulesAt Lst d.ra d.rs W) := Lib.hid fun W h => (hd W h).rules
  have HFI : Hid (∀ W, F W → FinsAt Lst d.fa d.fs W) := Lib.hid fun W h => (hd W h).fins
  have HV : Hid (pB (HasClash ((optsI d).map OptI.L)) = v) := by
    unfold Hid; rw [optsI_L]; exact hv
  have HOW : Hid (∀ W, F W → ∀ x ∈ optsI d, OptW x W) := Lib.hid fun W h x hx => by
    rcases List.mem_append.1 hx with hx | hx
    · obtain ⟨r, hr, rfl⟩ := List.mem_map.1 hx
      have := (hd W h).rules.it r hr
      exact ⟨this.1.1, this.2.1.llx⟩
    · obtain ⟨r, hr, rfl⟩ := List.mem_map.1 hx
      have := (hd W h).fins.it r hr
      exact ⟨this.1, this.2.1.llx⟩
  clear hd hv
  obtain ⟨i, o, n, s, ra, rc, rs, fa, fc, fs⟩ := d
  simp only at HRU HFI hr4 hf4 ⊢
  have HOP : Hid (optsI ⟨i, o, n, s, ra, rc, rs, fa, fc, fs⟩ = rs.map ruleO ++ fs.map finO) := rfl
  obtain ⟨opts, hopts⟩ : ∃ z, optsI ⟨i, o, n, s, ra, rc, rs, fa, fc, fs⟩ = z := ⟨_, rfl⟩
  rw [hopts] at HV HOW HOP
  clear hopts
  have HK1 := St.box hK [.int .i64 i, .int .i64 o, .int .i64 n, .int .i64 s, .slice ra rs.length rc, .slice fa fs.length fc] 26
  have HK := Lib.hid (HK1.out.alloc (.map #[] 0))
  have hmm := @run_makeMap Tryz.prog
  have HMP0 : Hid (∀ base, MapRw 3 1 intC (w.heap.size + 1) base (fun _ => []) [] ((w.alloc (.cells [.int .i64 i, .int .i64 o, .int .i64 n, .int .i64 s, .slice ra rs.length rc, .slice fa fs.length fc].toArray 26)).alloc (.map #[] 0))) := Lib.hid fun base => by
    have := MapRw.start (T := 3) (size := 1) (f := intC) (w.alloc (.cells [.int .i64 i, .int .i64 o, .int .i64 n, .int .i64 s, .slice ra rs.length rc, .slice fa fs.length fc].toArray 26)) base
    rwa [show (w.alloc (.cells [.int .i64 i, .int .i64 o, .int .i64 n, .int .i64 s, .slice ra rs.length rc, .slice fa fs.length fc].toArray 26)).heap.size = w.heap.size + 1 by simp] at this
  have hsz : ((w.alloc (.cells [.int .i64 i, .int .i64 o, .int .i64 n, .int .i64 s, .slice ra rs.length rc, .slice fa fs.length fc].toArray 26)).alloc (.map #[] 0)).heap.size = w.heap.size + 1 + 1 := by simp
  have HSZ := Lib.hid hsz
  have q4 := HK.out.now.1 4 _ rfl
  clear HK1 hsz
  obtain ⟨wM, hwM⟩ : ∃ z, ((w.alloc (.cells [.int .i64 i, .int .i64 o, .int .i64 n, .int .i64 s, .slice ra rs.length rc, .slice fa fs.length fc].toArray 26)).alloc (.map #[] 0)) = z := ⟨_, rfl⟩
  have HBM : Hid (Below w.heap.size w wM) := Lib.hid (by rw [← hwM]; exact ((Below.refl _ _).alloc (Nat.le_refl _) _).alloc (by simp) _)
  rw [hwM] at HK HMP0 HSZ q4
  go_enter Tryz.func123, Tryz.ntmps123
  go_wp2_with fail
  clear hwM q4 hmm
  obtain ⟨i0, hi, hz0, hz1, hz2⟩ := info_parts infoOpt
  go_loopw [5, 21] (fun lv iv wr => ∃ (k : Nat) (A : Option Addr) (c : Nat), k ≤ rs.length ∧ iv = .int .i64 k ∧ lv = .slice A k c ∧ Hid (wr.ownsRow wM.heap.size 246 3 (.slice A k c) k ((opts.take k).flatMap optC)) ∧ Hid (Below wM.heap.size wM wr)) (fun _ iv _ => rs.length - (intOf iv).toNat)
  case atStart => exact ⟨0, none, 0, Nat.zero_le _, rfl, rfl, Lib.hid (World.ownsRow_nil _ _ _ _), Lib.hid (Below.refl _ _)⟩
  case round =>
  obtain ⟨k, A, c, hk, rfl, rfl, HO, HBL⟩ := hrel
  have HK2 := Lib.hid (HK.out.step HBL.out)
  have hs3 := HBL.out.size
  by_cases hlt : k < rs.length
  · obtain ⟨rb, off, r, rfl, hx, hw, hd0, hd1, hd2, hd3, hd4⟩ := (HRU.out _ HK2.out.now.2).at_ hlt
    have HOX : Hid (opts[k]? = some (ruleO r)) := Lib.hid (by rw [HOP.out, List.getElem?_append_left (by simpa using hlt), List.getElem?_map, hx]; rfl)
    have hl40 : k < 1099511627776 := by omega
    have HO2 : Hid ((wr.alloc (.cells (ruleC r).toArray 102)).ownsRow wM.heap.size 246 3 (.slice A k c) k ((opts.take k).flatMap optC)) := Lib.hid (HO.out.alloc _)
    have hs4 : wM.heap.size ≤ (wr.alloc (.cells (ruleC r).toArray 102)).heap.size := by simp; omega
    simp only [ruleC] at HO2 hs4
    clear hx hw
    go_wp2_with (at_builtin; go_must (refine wpList_pushG rfl _ _ 243 rfl wM.heap.size 246 i0 _ 3 40 Tryz.underlying243 hi hz0 hz1 hz2 rfl (by decide) HO2.out rfl [.int .i64 r.fr, .slice r.ga r.gs.length r.gc, .bool false] 246 (by first | rfl | (simp; rfl) | simp) rfl (by simp [Value.oneCell']) hl40 (by decide) hs4 ?_); intro A9 c9 w9 HO9 HG9 HN9)
    have HBN : Hid (Below wM.heap.size wM w9) := Lib.hid (((HBL.out.alloc hs3 _).alloc hs4 _).grown HG9.out (by simp; omega) fun g hg => (HO.out.lt g (by rw [own_ownA]; exact hg)).1)
    have HON : Hid (w9.ownsRow wM.heap.size 246 3 (.slice A9 (k + 1) c9) (k + 1) ((opts.take (k + 1)).flatMap optC)) := Lib.hid (by
      rw [take_snoc? HOX.out, List.flatMap_append]
      simpa [optC, ruleO] using HO9.out)
    go_roundw
    case rel => exact ⟨k + 1, A9, c9, by omega, by go_num, rfl, HON, HBN⟩
    case measure => simp [intOf]; omega
  obtain rfl : k = rs.length := by omega
  have hd : decide (rs.length < rs.length) = false := by simp
  have q5 := HK2.out.now.1 5 _ rfl
  go_wp2_with fail
  clear hd hlt q5
  go_loopw [5, 37] (fun lv iv wr => ∃ (k : Nat) (A : Option Addr) (c : Nat), k ≤ fs.length ∧ iv = .int .i64 k ∧ lv = .slice A (rs.length + k) c ∧ Hid (wr.ownsRow wM.heap.size 246 3 (.slice A (rs.length + k) c) (rs.length + k) ((opts.take (rs.length + k)).flatMap optC)) ∧ Hid (Below wM.heap.size wM wr)) (fun _ iv _ => fs.length - (intOf iv).toNat)
  case atStart => exact ⟨0, A, c, Nat.zero_le _, rfl, rfl, HO, HBL⟩
  case round =>
  clear HO HBL HK2 hs3
  obtain ⟨k, A, c, hk, rfl, rfl, HO, HBL⟩ := hrel
  have HK2 := Lib.hid (HK.out.step HBL.out)
  have hs3 := HBL.out.size
  by_cases hlt : k < fs.length
  · obtain ⟨rb, off, r, rfl, hx, hw, hd0, hd1, hd2⟩ := (HFI.out _ HK2.out.now.2).at_ hlt
    have HOX : Hid (opts[rs.length + k]? = some (finO r)) := Lib.hid (by rw [HOP.out, List.getElem?_append_right (by simp), List.length_map, Nat.add_sub_cancel_left, List.getElem?_map, hx]; rfl)
    have hl40 : rs.length + k < 1099511627776 := by omega
    have HO2 : Hid ((wr.alloc (.cells (finC r).toArray 134)).ownsRow wM.heap.size 246 3 (.slice A (rs.length + k) c) (rs.length + k) ((opts.take (rs.length + k)).flatMap optC)) := Lib.hid (HO.out.alloc _)
    have hs4 : wM.heap.size ≤ (wr.alloc (.cells (finC r).toArray 134)).heap.size := by simp; omega
    simp only [finC] at HO2 hs4
    clear hx hw
    go_wp2_with (at_builtin; go_must (refine wpList_pushG rfl _ _ 243 rfl wM.heap.size 246 i0 _ 3 40 Tryz.underlying243 hi hz0 hz1 hz2 rfl (by decide) HO2.out rfl [.int .i64 r.fr, .slice r.ga r.gs.length r.gc, .bool true] 246 (by first | rfl | (simp; rfl) | simp) rfl (by simp [Value.oneCell']) hl40 (by decide) hs4 ?_); intro A9 c9 w9 HO9 HG9 HN9)
    have HBN : Hid (Below wM.heap.size wM w9) := Lib.hid (((HBL.out.alloc hs3 _).alloc hs4 _).grown HG9.out (by simp; omega) fun g hg => (HO.out.lt g (by rw [own_ownA]; exact hg)).1)
    have HON : Hid (w9.ownsRow wM.heap.size 246 3 (.slice A9 (rs.length + k + 1) c9) (rs.length + k + 1) ((opts.take (rs.length + k + 1)).flatMap optC)) := Lib.hid (by
      rw [take_snoc? HOX.out, List.flatMap_append]
      simpa [optC, finO] using HO9.out)
    go_roundw
    case rel => exact ⟨k + 1, A9, c9, by omega, by go_num, rfl, HON, HBN⟩
    case measure => simp [intOf]; omega
  obtain rfl : k = fs.length := by omega
  have hd : decide (fs.length < fs.length) = false := by simp
  have HOL : Hid (opts.length = rs.length + fs.length) := Lib.hid (by rw [HOP.out]; simp)
  have HOA : Hid (wr.ownsRow wM.heap.size 246 3 (.slice A opts.length c) opts.length (opts.flatMap optC)) := Lib.hid (by
    have := HO.out
    rwa [← HOL.out, List.take_length] at this)
  obtain ⟨m, hm⟩ : ∃ m, opts.length = m := ⟨_, rfl⟩
  rw [hm] at HOA HOL
  rw [← HOL.out]
  have HM := Lib.hid hm
  clear hm
  obtain ⟨w3, hw3⟩ : ∃ z, z = wr := ⟨_, rfl⟩
  subst hw3
  go_wp2_with fail
  clear hd hlt HO
  have HROW : Hid (Dep (fun k => wM.heap.size ≤ k) w3 (RowsAt 3 optC TrueR A opts)) := Lib.hid fun V hV => by
    have h1 := Sl.of_own (own_keep HOA.out (w' := V) fun k hA => hV k (own_ty HOA.out hA).1 (own_ty HOA.out hA).2.1)
    rw [← HM.out] at h1
    exact ⟨h1, fun _ _ => trivial, by rw [HM.out]; have := HOL.out; omega⟩
  have hm8 : m ≤ 8192 := by have := HOL.out; omega
  clear HOA
  obtain ⟨j0, ji, jz0, jz1, jz2⟩ := info_parts infoIy
  go_loopw [52] (fun iv wr => ∃ (k : Nat) (L : List (Int × Item Int)), k ≤ m ∧ iv = .int .i64 k ∧ L.length ≤ k ∧ Hid (MapRw 3 1 intC (w.heap.size + 1) w3.heap.size (atF opts k) L wr) ∧
      Hid ((∀ j, j < w3.heap.size → j ≠ w.heap.size + 1 → wr.heap[j]? = w3.heap[j]?) ∧ w3.heap.size ≤ wr.heap.size ∧ Below w.heap.size w wr)) (fun iv _ => m - (intOf iv).toNat)
  case atStart =>
    refine ⟨0, [], Nat.zero_le _, rfl, Nat.zero_le _, Lib.hid ?_, Lib.hid ⟨fun _ _ _ => rfl, Nat.le_refl _, ?_⟩⟩
    · have := (HMP0.out w3.heap.size).below HBL.out
      exact ⟨this.mp, this.sets, this.apart, this.val, this.none⟩
    · exact HBM.out.trans (HBL.out.mono (by have := HSZ.out; omega))
  case round =>
  obtain ⟨k, L, hk, rfl, hLk, HMP, HFR⟩ := hrel
  have HKr := Lib.hid (hK.out.step HFR.out.2.2)
  have hbs := HFR.out.2.1
  have HRO := Lib.hid (HROW.out wr fun j hj hl => HFR.out.1 j hl (by have := HSZ.out; omega))
  by_cases hlt : k < m
  case pos =>
    obtain ⟨ob, off, o, rfl, ho, hcc, _⟩ := HRO.out.at_ (fun _ => rfl) (j := k) (by rw [HM.out]; exact hlt)
    have hd0 := hcc 0 _ rfl
    have hd1 := hcc 1 _ rfl
    have hd2 := hcc 2 _ rfl
    simp only [Nat.add_zero] at hd0
    have HOX := Lib.hid ho
    have hwo := HOW.out _ HKr.out.now o (List.mem_of_getElem? ho)
    obtain ⟨fr, ga, gc, gs, fb⟩ := o
    simp only at hd0 hd1 hd2 hwo
    obtain ⟨A6, c6, hl6, hown6, hlook⟩ := HMP.out.look (mt := 244) (et := 62) hwo.1 Tryz.underlying244 (fun W => Tryz.zeroValue62 W)
    have HL6 := Lib.hid hl6
    have HOWN6 := Lib.hid hown6
    have HLOOK := Lib.hid hlook
    have hlr : (atF opts k fr).length ≤ k := by
      unfold atF; rw [List.length_map]
      have := List.length_filter_le (fun j => ((opts[j]?).map (·.fr)) == some fr) (List.range k)
      rwa [List.length_range] at this
    obtain ⟨wA, hwA⟩ : ∃ z, (wr.alloc (.cells #[.int .i64 fr, .slice ga gs.length gc, .bool fb] 246)).drew = z := ⟨_, rfl⟩
    have hbA : Below wr.heap.size wr wA := by rw [← hwA]; exact ((Below.refl _ wr).alloc (Nat.le_refl _) _).drew
    have hAs : wA.heap.size = wr.heap.size + 1 := by rw [← hwA]; simp
    have hA0 : wA.cell? ⟨wr.heap.size, 0, none⟩ = some (.int .i64 fr) := by rw [← hwA]; simp
    have hAm : wA.heap[w.heap.size + 1]? = wr.heap[w.heap.size + 1]? := hbA.block _ HMP.out.mp.lt
    have HBA := Lib.hid hbA
    have HAS := Lib.hid hAs
    have HWO := Lib.hid hwo.1
    clear ho hcc hl6 hown6 hlook hwo hAs
    go_wp2_with fail
    refine wp_region_Z 10 (by kernel_rfl) (fun W => W.cell? ⟨wr.heap.size, 0, none⟩ = some (.int .i64 fr) ∧ W.heap[w.heap.size + 1]? = wr.heap[w.heap.size + 1]?) (by rw [hwA]; exact ⟨hA0, hAm⟩) (fun hHeld => ?_)
    refine wpAnyZ_take (i := 0) (v := ?_) rfl (by kernel_rfl) (by kernel_rfl) (by kernel_rfl) (by kernel_rfl) (fun _ _ _ h => h) (Or.inl ⟨by first | kernel_rfl | rfl, ?_⟩) (by assumption) ?_
    rotate_left
    · intro w hSw; (try dsimp only at hSw); go_simp; (try with_reducible rfl)
    (try simp only [Act.put, List.getElem_toArray, List.getElem_cons_succ, List.getElem_cons_zero, List.setIfInBounds_toArray, List.set_cons_zero, List.set_cons_succ])
    refine wpAnyZ_take (i := 1) (v := ?_) rfl (by kernel_rfl) (by kernel_rfl) (by kernel_rfl) (by kernel_rfl) (fun _ _ _ h => h) (Or.inl ⟨by first | kernel_rfl | rfl, ?_⟩) (by assumption) ?_
    rotate_left
    · intro w hSw; (try dsimp only at hSw); go_simp; (try with_reducible rfl)
    (try simp only [Act.put, List.getElem_toArray, List.getElem_cons_succ, List.getElem_cons_zero, List.setIfInBounds_toArray, List.set_cons_zero, List.set_cons_succ])
    refine wpAnyZ_take (i := 2) (v := ?_) rfl (by kernel_rfl) (by kernel_rfl) (by kernel_rfl) (by kernel_rfl) (fun _ _ _ h => h) (Or.inl ⟨by first | kernel_rfl | rfl, ?_⟩) (by assumption) ?_
    rotate_left
    · intro w hSw; (try dsimp only at hSw); go_simp; (try with_reducible rfl)
    (try simp only [Act.put, List.getElem_toArray, List.getElem_cons_succ, List.getElem_cons_zero, List.setIfInBounds_toArray, List.set_cons_zero, List.set_cons_succ])
    refine wpAnyZ_take (i := 3) (v := ?_) rfl (by kernel_rfl) (by kernel_rfl) (by kernel_rfl) (by kernel_rfl) (fun _ _ _ h => h) (Or.inl ⟨by first | kernel_rfl | rfl, ?_⟩) (by assumption) ?_
    rotate_left
    · intro w hSw; (try dsimp only at hSw); go_simp; (try with_reducible rfl)
    (try simp only [Act.put, List.getElem_toArray, List.getElem_cons_succ, List.getElem_cons_zero, List.setIfInBounds_toArray, List.set_cons_zero, List.set_cons_succ])
    refine wpAnyZ_take (i := 4) (v := ?_) rfl (by kernel_rfl) (by kernel_rfl) (by kernel_rfl) (by kernel_rfl) (fun _ _ _ h => h) (Or.inl ⟨by first | kernel_rfl | rfl, ?_⟩) (by assumption) ?_
    rotate_left
    · intro w hSw; (try dsimp only at hSw); go_simp; (try with_reducible rfl)
    (try simp only [Act.put, List.getElem_toArray, List.getElem_cons_succ, List.getElem_cons_zero, List.setIfInBounds_toArray, List.set_cons_zero, List.set_cons_succ])
    refine wpAnyZ_take (i := 5) (v := ?_) rfl (by kernel_rfl) (by kernel_rfl) (by kernel_rfl) (by kernel_rfl) (fun _ _ _ h => h) (Or.inl ⟨by first | kernel_rfl | rfl, ?_⟩) (by assumption) ?_
    rotate_left
    · intro w hSw; (try dsimp only at hSw); go_simp; (try with_reducible rfl)
    (try simp only [Act.put, List.getElem_toArray, List.getElem_cons_succ, List.getElem_cons_zero, List.setIfInBounds_toArray, List.set_cons_zero, List.set_cons_succ])
    refine wpAnyZ_take (i := 6) (v := .slice A6 (atF opts k fr).length c6) rfl (by kernel_rfl) (by kernel_rfl) (by kernel_rfl) (by kernel_rfl) (fun _ _ _ h => h) (yieldsIf_lookup (by first | kernel_rfl | rfl) rfl rfl rfl (fun W hS => HLOOK.out W hS.2)) (by assumption) ?_
    (try simp only [Act.put, List.getElem_toArray, List.getElem_cons_succ, List.getElem_cons_zero, List.setIfInBounds_toArray, List.set_cons_zero, List.set_cons_succ])
    refine wpAnyZ_take (i := 7) (v := ?_) rfl (by kernel_rfl) (by kernel_rfl) (by kernel_rfl) (by kernel_rfl) (fun _ _ _ h => h) (Or.inl ⟨by first | kernel_rfl | rfl, ?_⟩) (by assumption) ?_
    rotate_left
    · intro w hSw; (try dsimp only at hSw); go_simp; (try with_reducible rfl)
    (try simp only [Act.put, List.getElem_toArray, List.getElem_cons_succ, List.getElem_cons_zero, List.setIfInBounds_toArray, List.set_cons_zero, List.set_cons_succ])
    rw [hwA]
    refine wpAnyZ_ready (i := 8) (by kernel_rfl) rfl (fun K hK => ?_)
    go_simp
    have hmL : w.heap.size + 1 < wA.heap.size := Nat.lt_of_lt_of_le HMP.out.mp.lt HBA.out.size
    have hSb : (wA.alloc (.cells #[.int .i64 (k : Int)] 3)).cell? ⟨wr.heap.size, 0, none⟩ = some (.int .i64 fr) ∧ (wA.alloc (.cells #[.int .i64 (k : Int)] 3)).heap[w.heap.size + 1]? = wr.heap[w.heap.size + 1]? :=
      ⟨(((Below.refl wA.heap.size wA).alloc (Nat.le_refl _) _).cell (p := ⟨wr.heap.size, 0, none⟩) (by show wr.heap.size < _; have := HAS.out; omega)).trans hA0, (Below.heap_alloc _ _ _ hmL).trans hAm⟩
    refine hK.out _ _ (hSb) (fun hHeld => ?_)
    clear hK K
    (try simp only [Act.put, List.getElem_toArray, List.getElem_cons_succ, List.getElem_cons_zero, List.setIfInBounds_toArray, List.set_cons_zero, List.set_cons_succ])
    have HOA : Hid (wA.ownsRow w3.heap.size 3 1 (.slice A6 (atF opts k fr).length c6) (atF opts k fr).length ((atF opts k fr).flatMap intC)) := Lib.hid (own_keep HOWN6.out fun j hj => HBA.out.block j (own_ty HOWN6.out hj).2.1)
    have hl40 : (atF opts k fr).length < 1099511627776 := by omega
    have hbA2 : w3.heap.size ≤ wA.heap.size := by have := HAS.out; omega
    refine wpAnyZ_ready (i := 9) (by kernel_rfl) rfl (fun K hK => ?_)
    refine step_pushG rfl _ _ 62 rfl w3.heap.size 3 j0 _ 1 8 Tryz.underlying62 ji jz0 jz1 jz2 rfl (by decide) HOA.out rfl [.int .i64 (k : Int)] 3 rfl rfl (by simp [Value.oneCell']) hl40 (by decide) hbA2 ?_
    intro A9 c9 w9 HO9 HG9 HN9
    have hmA : ownA A6 ≠ some (w.heap.size + 1) := fun e => by
      have h1 := (own_ty HOWN6.out e).1
      have h2 := HBL.out.size
      have h3 := HSZ.out
      omega
    have h9m : w9.heap[w.heap.size + 1]? = wr.heap[w.heap.size + 1]? := (HG9.out.block _ (by simp; omega) (fun e => hmA e.symm)).trans hSb.2
    have h9c : w9.cell? ⟨wr.heap.size, 0, none⟩ = some (.int .i64 fr) := (HG9.out.cell hSb.1 (fun e => by have h1 := (own_ty HOWN6.out e.symm).2.1; simp at h1))
    refine hK.out _ _ (⟨h9c, h9m⟩) (fun hHeld => ?_)
    clear hK K
    (try simp only [Act.put, List.getElem_toArray, List.getElem_cons_succ, List.getElem_cons_zero, List.setIfInBounds_toArray, List.set_cons_zero, List.set_cons_succ])
    have hkeyF : keyOf Tryz.prog 3 (.int .i64 fr) = some (.int .i64 fr) := Maps.keyOf_int_mk Tryz.underlying3 (by
      have := HWO.out; unfold I64 at this
      simp [Lit.wf, IntKind.min, IntKind.max, IntKind.signed, IntKind.bits]; omega)
    obtain ⟨wB, hrun, hMB, hGB, hSB⟩ := (HMP.out.mp.same h9m).put (Maps.int_keyed Tryz.underlying3) Tryz.underlying244 (by rw [List.length_map]; unfold maxLen; omega) (.slice A9 ((atF opts k fr).length + 1) c9) hkeyF
    obtain ⟨L2, hMP2, hfr2, hsz2, hbel2, hL2⟩ := HMP.out.step (W7 := wA) (x := (k : Int)) (by have := HBL.out.size; have := HSZ.out; omega) hbs HBA.out HL6.out HO9.out HG9.out HN9.out (by
      have e : ival ((A9, c9, atF opts k fr ++ [(k : Int)]) : Item Int) = .slice A9 ((atF opts k fr).length + 1) c9 := by simp [ival]
      rw [e]; exact hMB) hGB
    have HMP2 : Hid (MapRw 3 1 intC (w.heap.size + 1) w3.heap.size (atF opts (k + 1)) L2 wB) := Lib.hid (by
      rw [atF_snoc HOX.out]; exact hMP2)
    have HFR2 : Hid ((∀ j, j < w3.heap.size → j ≠ w.heap.size + 1 → wB.heap[j]? = w3.heap[j]?) ∧ w3.heap.size ≤ wB.heap.size ∧ Below w.heap.size w wB) :=
      Lib.hid ⟨fun j hj hn => (hfr2 j hj hn).trans (HFR.out.1 j hj hn), Nat.le_trans hbs hsz2, HFR.out.2.2.trans (hbel2 w.heap.size (by omega) HFR.out.2.2.size)⟩
    refine wpAnyZ_last (i := 10) rfl (by kernel_rfl) (by kernel_rfl) rfl (fun K hK => ?_)
    refine wp_mapUpdate rfl rfl rfl rfl hrun ?_
    refine hK.out _ _ ?_
    have hlL : L2.length ≤ k + 1 := by omega
    have HLT := Lib.hid hlt
    clear hHeld hK K hrun hMB hGB hSB hMP2 hfr2 hsz2 hbel2 hL2 h9m h9c hSb hmA hA0 hAm hwA hbA hlt hbs hlr hmL hl40 hbA2 hkeyF
    (try simp only [Act.put, List.getElem_toArray, List.getElem_cons_succ, List.getElem_cons_zero, List.setIfInBounds_toArray, List.set_cons_zero, List.set_cons_succ])
    go_wp2_with fail
    go_roundw
    case rel => exact ⟨k + 1, L2, by have := HLT.out; omega, by go_num, hlL, HMP2, HFR2⟩
    case measure => have := HLT.out; simp [intOf]; omega
  obtain rfl : k = m := by omega
  have hd : decide (k < k) = false := by simp
  go_wp2_with fail
  clear hd hlt
  have HKE : Hid (St w0 wr (fun W => MapRw 3 1 intC (w.heap.size + 1) w3.heap.size (atF opts k) L W ∧ RowsAt 3 optC TrueR A opts W ∧ F W)) := Lib.hid
    ⟨fun W hW => ⟨HMP.out.below hW, HRO.out.below (fun _ _ _ _ _ => trivial) hW, hK.out.1 W (HFR.out.2.2.trans (hW.mono HFR.out.2.2.size))⟩, HKr.out.2⟩
  obtain ⟨w4, hw4⟩ : ∃ z, z = wr := ⟨_, rfl⟩
  subst hw4
  clear HMP HRO HFR HKr hbs hLk hk
  go_loopw [70] (fun iv wr => ∃ q : Nat, q ≤ k ∧ iv = .int .i64 q ∧ Hid (∀ (x y : Nat) (a b : OptI), x < q → x < y → opts[x]? = some a → opts[y]? = some b → ¬ ClashP a.L b.L) ∧ Hid (St w0 wr (fun W => MapRw 3 1 intC (w.heap.size + 1) w3.heap.size (atF opts k) L W ∧ RowsAt 3 optC TrueR A opts W ∧ F W))) (fun iv _ => k - (intOf iv).toNat)
  case atStart => exact ⟨0, Nat.zero_le _, rfl, Lib.hid (fun x y a b hx => by omega), HKE⟩
  case round =>
  clear HKE
  obtain ⟨q, hq, rfl, HNC, HKE⟩ := hrel
  by_cases hlt : q < k
  case neg =>
    obtain rfl : q = k := by omega
    have hd : decide (q < q) = false := by simp
    obtain rfl := pB_f HV (fun ⟨x, y, a, b, hxy, ha, hb, hcl⟩ => by
      rw [List.getElem?_map] at ha hb
      rcases hoa : opts[x]? with _ | oa
      · rw [hoa] at ha; cases ha
      rcases hob : opts[y]? with _ | ob
      · rw [hob] at hb; cases hb
      rw [hoa] at ha; rw [hob] at hb
      injection ha with ha; injection hb with hb
      subst ha; subst hb
      exact HNC.out x y oa ob (by have := (List.getElem?_eq_some_iff.1 hoa).1; rw [HM.out] at this; exact this) hxy hoa hob hcl)
    go_wp2_with fail
    go_ret3
    exact ⟨0, 0, rfl, Lib.hid (HKE.out.weaken fun W h => h.2.2)⟩
  obtain ⟨ob, off, o, rfl, ho, hcc, _⟩ := HKE.out.now.2.1.at_ (fun _ => rfl) (j := q) (by rw [HM.out]; exact hlt)
  have hd0 := hcc 0 _ rfl
  have hd1 := hcc 1 _ rfl
  have hd2 := hcc 2 _ rfl
  simp only [Nat.add_zero] at hd0
  have HOX := Lib.hid ho
  have hwo := HOW.out _ HKE.out.now.2.2 o (List.mem_of_getElem? ho)
  obtain ⟨A6, c6, hl6, hown6, hlook⟩ := HKE.out.now.1.look (mt := 244) (et := 62) hwo.1 Tryz.underlying244 (fun W => Tryz.zeroValue62 W)
  obtain ⟨row, hrow⟩ : ∃ z, atF opts k o.fr = z := ⟨_, rfl⟩
  rw [hrow] at hown6 hlook
  have HRW := Lib.hid hrow
  have HROWI : Hid (∀ W, Below wr.heap.size wr W → IntsAt A6 row W) := Lib.hid fun W hW => by
    have h1 := (Sl.of_own hown6).below (B := 0) hW
    have hl : row.length ≤ k := by
      rw [← hrow]; unfold atF; rw [List.length_map]
      have := List.length_filter_le (fun j => ((opts[j]?).map (·.fr)) == some o.fr) (List.range k)
      rwa [List.length_range] at this
    refine ⟨h1, fun x hx => ?_, by omega⟩
    rw [← hrow] at hx
    obtain ⟨j, rfl, hj, _⟩ := atF_mem hx
    unfold I64; omega
  have hlen : row.length ≤ k := by
    rw [← hrow]; unfold atF; rw [List.length_map]
    have := List.length_filter_le (fun j => ((opts[j]?).map (·.fr)) == some o.fr) (List.range k)
    rwa [List.length_range] at this
  have HKO := Lib.hid (HKE.out.add (Below.refl _ _) (G := fun W => OptW o W ∧ IntsAt A6 row W) (fun W hW => ⟨OptW.stays _ _ _ hwo hW, HROWI.out W hW⟩))
  have HKB := St.box HKO (optC o) 246
  have hlk1 := hlook (wr.alloc (.cells (optC o).toArray 246)) (Below.heap_alloc _ _ _ HKE.out.now.1.mp.lt)
  simp only [optC] at HKB hlk1
  obtain ⟨p0, p1, p2⟩ := HKB.out.now.1.c3
  clear ho hcc hl6 hown6 hlook hrow hwo
  go_wp2_with fail
  clear hlk1 p0 p1 p2
  obtain ⟨wB, hwB⟩ : ∃ z, (wr.alloc (.cells #[.int .i64 o.fr, .slice o.ga o.gs.length o.gc, .bool o.fin] 246)) = z := ⟨_, rfl⟩
  rw [hwB] at HKB ⊢
  obtain ⟨bx, hbx⟩ : ∃ z, wr.heap.size = z := ⟨_, rfl⟩
  rw [hbx] at HKB ⊢
  clear hwB hbx
  have HLT := Lib.hid hlt
  clear hd0 hd1 hd2 hlt
  go_loopw [80] (fun iv wr => ∃ y : Nat, y ≤ row.length ∧ iv = .int .i64 y ∧ Hid (∀ x ∈ row.take y, ∀ j : Nat, x = j → q < j → ∀ b, opts[j]? = some b → ¬ ClashP o.L b.L) ∧
    Hid (St w0 wr (fun W => BoxC bx [.int .i64 o.fr, .slice o.ga o.gs.length o.gc, .bool o.fin] W ∧ (OptW o W ∧ IntsAt A6 row W) ∧ MapRw 3 1 intC (w.heap.size + 1) w3.heap.size (atF opts k) L W ∧ RowsAt 3 optC TrueR (some ⟨ob, off, none⟩) opts W ∧ F W))) (fun iv _ => row.length - (intOf iv).toNat)
  case atStart => exact ⟨0, Nat.zero_le _, rfl, Lib.hid (fun x hx => by simp at hx), HKB⟩
  case round =>
  clear HKB HKO HKE HROWI
  obtain ⟨y, hy, rfl, HNY, HK5⟩ := hrel
  by_cases hly : y < row.length
  · obtain ⟨rb, ro, x, rfl, hx, hxw, hcx⟩ := HK5.out.now.2.1.2.at_ hly
    have HXM := Lib.hid hx
    have hxm : x ∈ atF opts k o.fr := by rw [HRW.out]; exact List.mem_of_getElem? hx
    obtain ⟨j, rfl, hjk, b, hb, hbf⟩ := atF_mem hxm
    have hqi : (q : Int) < (k : Int) := by have := HLT.out; omega
    have HBO := Lib.hid (And.intro hb hbf)
    have HYL := Lib.hid hly
    have hyr : (y : Int) < (row.length : Int) := by omega
    clear hx hxw hxm hb hbf hly
    by_cases hjq : q < j
    · have hg : decide ((q : Int) < (j : Int)) = true := by simp; omega
      have hg2 : (q : Int) < (j : Int) := by omega
      obtain ⟨ob2, off2, b2, hA2, hb2, hcc2, _⟩ := HK5.out.now.2.2.2.1.at_ (fun _ => rfl) (j := j) (by rw [HM.out]; exact hjk)
      injection hA2 with hA2; injection hA2 with e1 e2
      subst e1; subst e2
      obtain rfl : b = b2 := by have h1 := HBO.out.1; rw [h1] at hb2; exact Option.some.inj hb2
      have hd0 := hcc2 0 _ rfl
      have hd1 := hcc2 1 _ rfl
      have hd2 := hcc2 2 _ rfl
      simp only [Nat.add_zero] at hd0
      obtain ⟨vc, HVC⟩ : ∃ vc, Hid (pB (ClashP o.L b.L) = vc) := ⟨_, rfl⟩
      have hwb := HOW.out _ HK5.out.now.2.2.2.2 b (List.mem_of_getElem? HBO.out.1)
      have HK6 := St.hdrewN (Lib.hid (HK5.out.add (Below.refl _ _) (G := fun W => OptW b W ∧ W.cell? ⟨ob, off + j * 3, none⟩ = some (.int .i64 b.fr) ∧ W.cell? ⟨ob, off + j * 3 + 1, none⟩ = some (.slice b.ga b.gs.length b.gc) ∧ W.cell? ⟨ob, off + j * 3 + 2, none⟩ = some (.bool b.fin))
        (fun W hW => ⟨OptW.stays _ _ _ hwb hW, (hW.cell (p := ⟨ob, off + j * 3, none⟩) (lt_of_cell hd0)).trans hd0, (hW.cell (p := ⟨ob, off + j * 3 + 1, none⟩) (lt_of_cell hd1)).trans hd1, (hW.cell (p := ⟨ob, off + j * 3 + 2, none⟩) (lt_of_cell hd2)).trans hd2⟩))) 1
      have hjk2 : (j : Int) < (k : Int) := by omega
      clear hd0 hd1 hd2 hcc2 hb2 hwb
      go_wp2_with fail
      go_region_held3 (fun W => W.cell? ⟨ob, off + j * 3, none⟩ = some (.int .i64 b.fr) ∧ W.cell? ⟨ob, off + j * 3 + 1, none⟩ = some (.slice b.ga b.gs.length b.gc) ∧ W.cell? ⟨ob, off + j * 3 + 2, none⟩ = some (.bool b.fin) ∧ W.cell? ⟨bx, 0, none⟩ = some (.int .i64 o.fr) ∧ W.cell? ⟨bx, 1, none⟩ = some (.slice o.ga o.gs.length o.gc) ∧ W.cell? ⟨bx, 2, none⟩ = some (.bool o.fin))
        (first | exact ⟨HK7.out.now.1.2.1, HK7.out.now.1.2.2.1, HK7.out.now.1.2.2.2, HK7.out.now.2.1.c3.1, HK7.out.now.2.1.c3.2.1, HK7.out.now.2.1.c3.2.2⟩ | exact ⟨HK6.out.now.1.2.1, HK6.out.now.1.2.2.1, HK6.out.now.1.2.2.2, HK6.out.now.2.1.c3.1, HK6.out.now.2.1.c3.2.1, HK6.out.now.2.1.c3.2.2⟩ | go_keep)
        ((go_at_call 168; refine (clash_st HK6 o b (fun _ h => h.2.2.1.1) (fun _ h => h.1.1) vc HVC).mono ?_; rintro e7 w7 ⟨rfl, HK7⟩))
      rcases vc with _ | _
      · have HN : Hid (∀ x ∈ row.take (y + 1), ∀ j : Nat, x = j → q < j → ∀ b, opts[j]? = some b → ¬ ClashP o.L b.L) := Lib.hid fun x hx j' e hj' b' hb' => by
          rw [take_snoc? HXM.out] at hx
          rcases List.mem_append.1 hx with hx | hx
          · exact HNY.out x hx j' e hj' b' hb'
          · simp at hx; subst hx
            obtain rfl : j = j' := by omega
            obtain rfl : b = b' := by have h1 := HBO.out.1; rw [h1] at hb'; exact Option.some.inj hb'
            intro hc
            have := pB_true hc
            rw [HVC.out] at this; cases this
        go_wp2_with fail
        go_roundw
        case rel => exact ⟨y + 1, by have := HYL.out; omega, by go_num, HN, Lib.hid (HK7.out.weaken fun W h => h.2)⟩
        case measure => have := HYL.out; simp [intOf]; omega
      · obtain rfl := pB_t HV ⟨q, j, o.L, b.L, hjq, by rw [List.getElem?_map, HOX.out]; rfl, by rw [List.getElem?_map, HBO.out.1]; rfl, pB_iff.1 HVC.out⟩
        go_wp2_with fail
        go_ret3
        exact ⟨q, j, rfl, Lib.hid (HK7.out.weaken fun W h => h.2.2.2.2.2)⟩
    · have hg : decide ((q : Int) < (j : Int)) = false := by simp; omega
      have hg2 : ¬ (q : Int) < (j : Int) := by omega
      have HN : Hid (∀ x ∈ row.take (y + 1), ∀ j : Nat, x = j → q < j → ∀ b, opts[j]? = some b → ¬ ClashP o.L b.L) := Lib.hid fun x hx j' e hj' b' hb' => by
        rw [take_snoc? HXM.out] at hx
        rcases List.mem_append.1 hx with hx | hx
        · exact HNY.out x hx j' e hj' b' hb'
        · simp at hx; subst hx; omega
      clear hjq
      go_wp2_with (go_quiet (fail))
      go_roundw
      case rel => exact ⟨y + 1, by have := HYL.out; omega, by go_num, HN, St.hdrewN HK5 _⟩
      case measure => have := HYL.out; simp [intOf]; omega
  · obtain rfl : y = row.length := by omega
    have hd : decide (row.length < row.length) = false := by simp
    have HN : Hid (∀ (x y : Nat) (a b : OptI), x < q + 1 → x < y → opts[x]? = some a → opts[y]? = some b → ¬ ClashP a.L b.L) := Lib.hid fun x y a b hx hxy ha hb hc => by
      by_cases e : x = q
      · subst e
        obtain rfl : o = a := by have h1 := HOX.out; rw [h1] at ha; exact Option.some.inj ha
        have hyk : y < k := by have := (List.getElem?_eq_some_iff.1 hb).1; rw [HM.out] at this; exact this
        have hm := atF_has hyk hb
        rw [show b.fr = o.fr from hc.1.symm, HRW.out] at hm
        exact HNY.out (y : Int) (by rwa [List.take_length]) y rfl hxy b hb hc
      · exact HNC.out x y a b (by omega) hxy ha hb hc
    clear HNY
    go_wp2_with fail
    go_roundw
    case rel => exact ⟨q + 1, by have := HLT.out; omega, by go_num, HN, Lib.hid (HK5.out.weaken fun W h => h.2.2)⟩
    case measure => have := HLT.out; simp [intOf]; omega
theorem Sole_st (hK : Hid (St w0 w F)) (d : DescI) (hd : ∀ W, F W → DescW d W) (hok : Hid (DescOk d.L)) (v : Bool) (hv : Hid (pB (DClash d.L) = v)) (hst : StageD d) :
    Calls Tryz.prog 72 #[.agg #[.int .i64 d.i, .int .i64 d.o, .int .i64 d.n, .int .i64 d.s, .slice d.ra d.rs.length d.rc, .slice d.fa d.fs.length d.fc]] w (RetV w0 (.tuple #[.bool (!v), .int .i64 0]) F) := by
  have HK := St.box hK [.int .i64 d.i, .int .i64 d.o, .int .i64 d.n, .int .i64 d.s, .slice d.ra d.rs.length d.rc, .slice d.fa d.fs.length d.fc] 26
  have HD := Lib.hid hd
  have hr4 : d.rs.length ≤ 4096 := by have := hok.out.head.2.2.2.2.2.1; rwa [show d.L.rules = d.rs.map RuleI.L from rfl, List.length_map] at this
  have hf4 : d.fs.length ≤ 4096 := by have := hok.out.head.2.2.2.2.2.2; rwa [show d.L.fins = d.fs.map FinI.L from rfl, List.length_map] at this
  have HOK := Lib.hid (pB_true hok.out)
  obtain ⟨q0, q1, q2, q3, q4, q5⟩ := HK.out.now.1.c6
  clear hd
  go_enter Tryz.func72, Tryz.ntmps72
  go_wp2_with fail
  refine (dCheck_st HK d (fun _ h => HD.out _ h.2) true HOK hst).mono ?_
  intro e w1 hret
  rw [if_pos rfl] at hret
  obtain ⟨rfl, HK1⟩ := hret
  clear q0 q1 q2 q3 q4 q5
  obtain ⟨q0, q1, q2, q3, q4, q5⟩ := HK1.out.now.1.c6
  go_wp2_with fail
  refine (Clash_st HK1 d (fun _ h => HD.out _ h.2) hr4 hf4 v hv).mono ?_
  rintro e w2 ⟨x, y, rfl, HK2⟩
  go_wp2_with fail
  go_ret2
  exact ⟨rfl, Lib.hid (HK2.out.weaken fun W h => h.2)⟩
end
end Go.Proofs.YtlmkokeapbleoaaGreat
end
section
namespace Go.Proofs.YtlmkokeapbleoaaGreat
open Go.RowKit
section
variable {w0 w : World} {F : World → Prop}
theorem free1_st (hK : Hid (St w0 w F)) (r : RuleI) (hr : r.gs.length ≤ 9223372036854775807) (v : Bool) (hv : Hid (pB (r.gs = []) = v)) :
    Calls Tryz.prog 122 #[.agg #[.int .i64 r.fr, .int .i64 r.dst, .slice r.ga r.gs.length r.gc, .int .i64 r.e, .slice r.o.a r.o.l.length r.o.c]] w (RetV w0 (.bool v) F) := by
  have HK := St.box hK (ruleC r) 102
  simp only [ruleC] at HK
  by_cases h0 : r.gs = []
  · have h1 : ((r.gs.length : Int) == 0) = true := by rw [h0]; rfl
    obtain rfl := pB_t hv h0
    clear h0
    go_enter Tryz.func122, Tryz.ntmps122
    go_wp2_with fail
    go_ret
    exact ⟨rfl, Lib.hid (HK.out.weaken fun _ h => h.2)⟩
  · have h1 : ((r.gs.length : Int) == 0) = false := by
      rw [beq_eq_false_iff_ne]
      intro h
      exact h0 (List.eq_nil_of_length_eq_zero (by omega))
    obtain rfl := pB_f hv h0
    clear h0
    go_enter Tryz.func122, Tryz.ntmps122
    go_wp2_with fail
    go_ret
    exact ⟨rfl, Lib.hid (HK.out.weaken fun _ h => h.2)⟩
def FreeI (rs : List RuleI) : Prop := ∀ r ∈ rs, r.gs ≠ []
def RetIx2 (w0 : World) (v : Bool) (F : World → Prop) (e : Ending) (w' : World) : Prop := ∃ r : Int, e = .returned (.int .i64 r) ∧ ((v = true ∧ r = -1) ∨ (v = false ∧ 0 ≤ r)) ∧ Hid (St w0 w' F)
theorem indexR_st (hK : Hid (St w0 w F)) {ra : Option Addr} {rs : List RuleI} (hr : ∀ W, F W → RulesAt Lst ra rs W) (rc : Nat) (v : Bool) (hv : Hid (pB (FreeI rs) = v)) :
    Calls Tryz.prog 155 #[.slice ra rs.length rc, .func (.func 122) #[] #[]] w (RetIx2 w0 v F) := by
  have HR := Lib.hid hr
  have hln := (hr _ hK.out.now).ln
  clear hr
  go_enter Tryz.func155, Tryz.ntmps155
  go_wp2_with fail
  go_loopw [8] (fun iv wr => ∃ m : Nat, m ≤ rs.length ∧ iv = .int .i64 m ∧ Hid (FreeI (rs.take m)) ∧ Hid (St w0 wr F)) (fun iv _ => rs.length - (intOf iv).toNat)
  case atStart => exact ⟨0, Nat.zero_le _, rfl, Lib.hid (fun i hi => by simp at hi), hK⟩
  case round =>
  obtain ⟨m, hm, rfl, HF, HK⟩ := hrel
  by_cases hlt : m < rs.length
  · obtain ⟨rb, off, r, rfl, hx, hw, hd0, hd1, hd2, hd3, hd4⟩ := (HR.out _ HK.out.now).at_ hlt
    have HX := Lib.hid hx
    have hgl := hw.2.1.2
    obtain ⟨vr, HVR⟩ : ∃ vr, Hid (pB (r.gs = []) = vr) := ⟨_, rfl⟩
    have hmr : (m : Int) < (rs.length : Int) := by omega
    clear hx hw
    go_wp2_with fail
    refine (free1_st HK r hgl vr HVR).mono ?_
    rintro e w1 ⟨rfl, HK1⟩
    rcases vr with _ | _
    · have HN : Hid (FreeI (rs.take (m + 1))) := Lib.hid fun q hq => by
        rw [take_snoc? HX.out] at hq
        rcases List.mem_append.1 hq with hq | hq
        · exact HF.out q hq
        · simp at hq; subst hq
          intro h
          have := pB_true h
          rw [HVR.out] at this; cases this
      go_wp2_with fail
      exact ⟨⟨m + 1, by omega, by go_num, HN, HK1⟩, by simp [intOf]; omega⟩
    · obtain rfl := pB_f hv (fun h => h r (List.mem_of_getElem? HX.out) (pB_iff.1 HVR.out))
      go_wp2_with fail
      go_ret
      exact ⟨m, rfl, .inr ⟨rfl, by omega⟩, HK1⟩
  · obtain rfl : m = rs.length := by omega
    have hd : decide (rs.length < rs.length) = false := by simp
    obtain rfl := pB_t hv (by have := HF.out; rwa [List.take_length] at this)
    go_wp2_with fail
    go_ret
    exact ⟨-1, rfl, .inl ⟨rfl, rfl⟩, HK⟩
theorem containsR_st (hK : Hid (St w0 w F)) {ra : Option Addr} {rs : List RuleI} (hr : ∀ W, F W → RulesAt Lst ra rs W) (rc : Nat) (v : Bool) (hv : Hid (pB (FreeI rs) = v)) :
    Calls Tryz.prog 106 #[.slice ra rs.length rc, .func (.func 122) #[] #[]] w (RetV w0 (.bool (!v)) F) := by
  go_enter Tryz.func106, Tryz.ntmps106
  go_wp2_with fail
  refine (indexR_st hK hr rc v hv).mono ?_
  rintro e w1 ⟨r, rfl, hr, HK1⟩
  rcases hr with ⟨rfl, rfl⟩ | ⟨rfl, hr⟩
  all_goals
    go_wp2_with fail
    go_ret
    exact ⟨rfl, HK1⟩
theorem Free_st (hK : Hid (St w0 w F)) (d : DescI) (hd : ∀ W, F W → DescW d W) (v : Bool) (hv : Hid (pB (FreeI d.rs) = v)) :
    Calls Tryz.prog 71 #[.agg #[.int .i64 d.i, .int .i64 d.o, .int .i64 d.n, .int .i64 d.s, .slice d.ra d.rs.length d.rc, .slice d.fa d.fs.length d.fc]] w (RetV w0 (.bool v) F) := by
  have HK := St.box hK [.int .i64 d.i, .int .i64 d.o, .int .i64 d.n, .int .i64 d.s, .slice d.ra d.rs.length d.rc, .slice d.fa d.fs.length d.fc] 26
  have HD := Lib.hid hd
  have q4 := HK.out.now.1 4 _ rfl
  clear hd
  go_enter Tryz.func71, Tryz.ntmps71
  go_wp2_with fail
  refine (containsR_st HK (fun _ h => (HD.out _ h.2).rules) d.rc v hv).mono ?_
  rintro e w1 ⟨rfl, HK1⟩
  have hnn : (!!v) = v := Bool.not_not v
  go_wp2_with fail
  go_ret
  exact ⟨by simp, Lib.hid (HK1.out.weaken fun _ h => h.2)⟩
end
end Go.Proofs.YtlmkokeapbleoaaGreat
end
section
namespace Go.Proofs.YtlmkokeapbleoaaGreat
open Go.RowKit
def zeroT : Array Value := (List.replicate 256 (Value.int .u8 0) ++ [Value.slice none 0 0, Value.slice none 0 0, Value.slice none 0 0]).toArray
def zeroTab : TabI := ⟨List.replicate 256 0, none, 0, [], none, 0, [], none, 0, []⟩
theorem zrep_at (n : Nat) (tl : List Value) (i : Nat) (x : Int) (h : (List.replicate n (0 : Int))[i]? = some x) : (List.replicate n (Value.int .u8 0) ++ tl).toArray[i]? = some (Value.int .u8 x) := by
  obtain ⟨hi, hx⟩ := List.getElem?_eq_some_iff.1 h
  rw [List.getElem_replicate] at hx
  subst hx
  rw [List.length_replicate] at hi
  rw [List.getElem?_toArray, List.getElem?_append_left (by simpa using hi), List.getElem?_replicate, if_pos hi]
theorem zeroT_size : zeroT.size = 259 := by kernel_rfl
theorem zeroT_C : TabC zeroT zeroTab := by
  refine ⟨zeroT_size, List.length_replicate, fun x hx => ?_, fun i x hx => ?_, by kernel_rfl, by kernel_rfl, by kernel_rfl⟩
  · have := List.eq_of_mem_replicate hx; omega
  · exact zrep_at 256 _ i x hx
theorem info_tabZ : (Tryz.prog.info? 49).map (fun i => i.zero) = some (some (.agg zeroT)) := by kernel_rfl
theorem info_tabS : (Tryz.prog.info? 49).map (·.size) = some 259 := by kernel_rfl
theorem info_tabS' : (Tryz.prog.info? 49).map (·.size) = some zeroT.size := by rw [zeroT_size]; exact info_tabS
theorem built_tab : Tryz.prog.built 49 [] = some zeroT := by kernel_rfl
section
variable {P : Program} {w : World} {ops : Array Oper} {rest : List Oper} {o : Oper} {a : Act} {Q : Exit → Act → World → Prop}
theorem wpList_allocZ (hgd : o.guard = none) (t : TypeId) (ho : o.op = .alloc t) (cs : Array Value) (hz : (P.info? t).map (fun i => i.zero) = some (some (.agg cs)))
    (h : wpList P ops Q rest (a.put o.dst (.pointer (some ⟨w.heap.size, 0, none⟩))) (w.alloc (.cells cs t))) : wpList P ops Q (o :: rest) a w := by
  refine Great.wpList_runTo hgd o.dst rfl _ _ ?_ h
  cases hq : P.info? t with
  | none => simp [hq] at hz
  | some i =>
    have hzz : i.zero = some (.agg cs) := by simpa [hq] using hz
    unfold execOp
    simp [ho, Instr.alloc, zeroValue, typeInfo, hq, hzz, newVar, newRow, Value.cells]
end
section
variable {P : Program} {w : World} {ops : Array Oper} {rest : List Oper} {o : Oper} {a : Act} {Q : Exit → Act → World → Prop}
theorem wpList_buildZ (hgd : o.guard = none) (t : TypeId) (ho : o.op = .build t #[]) (cs : Array Value) (hz : P.built t [] = some cs)
    (h : wpList P ops Q rest (a.put o.dst (.agg cs)) w) : wpList P ops Q (o :: rest) a w := by
  refine wpList_build hgd t #[] ho (by simp [hz]) ?_
  simpa [hz] using h
theorem wpList_load_rowG (hw : Region.wanted o (yielded ops a.tmps) = true) (ty : TypeId) (x : Operand) (ho : o.op = .load ty x) (g : Nat) (hx : a.eval x = .pointer (some ⟨g, 0, none⟩))
    (t : TypeId) (cs : Array Value) (fr : Nat × Nat) (d : TypeDesc) (hg : w.heap[g]? = some (.cells cs t fr))
    (hu : P.underlying ty = some d) (hd : (match d with | .struct _ | .array _ _ => true | _ => false) = true) (hi : (P.info? ty).map (·.size) = some cs.size)
    (h : wpList P ops Q rest (a.put o.dst (.agg cs)) w) : wpList P ops Q (o :: rest) a w :=
  wpList_step fun K hK => by rw [if_pos hw]; exact wp_load_row ty x ho g hx t cs fr d hg hu hd hi (hK _ _ h)
end
theorem results_row2 {P : Program} {fn : Func} {p q : Tmp} {ty : TypeId} (h : fn.results = #[.cell p ty, .tmp q]) (tmps : Array Value) (w : World) (g : Nat) (t : TypeId) (cs : Array Value) (fr : Nat × Nat) (d : TypeDesc) (v : Value)
    (hp : tmps.getD p undef = .pointer (some ⟨g, 0, none⟩)) (hq : tmps.getD q undef = v) (hg : w.heap[g]? = some (.cells cs t fr))
    (hu : P.underlying ty = some d) (hd : (match d with | .struct _ | .array _ _ => true | _ => false) = true) (hi : (P.info? ty).map (·.size) = some cs.size) :
    (results fn tmps).run P w = .ok (.tuple #[.agg cs, v]) w := by
  have hp' : tmps[p]?.getD undef = .pointer (some ⟨g, 0, none⟩) := by simpa using hp
  have hq' : tmps[q]?.getD undef = v := by simpa using hq
  simp [results, h, hp', hq', asAddr, run_loadVar_row w g t ty cs fr d hg hu hd hi]
theorem cells_one {cs : Array Value} {T : TabI} (h : TabC cs T) : cs.all (·.oneCell') = true := by
  refine Array.all_eq_true.2 fun i hi => ?_
  have hs := h.size
  have hg : cs[i]? = some cs[i] := Array.getElem?_eq_getElem hi
  by_cases h1 : i < 256
  · have hx : T.cls[i]? = some (T.cls[i]'(by rw [h.ln]; exact h1)) := List.getElem?_eq_getElem _
    rw [h.cl i _ hx] at hg
    injection hg with hg
    rw [← hg]; rfl
  · by_cases h2 : i = 256
    · subst h2; rw [h.c1] at hg; injection hg with hg; rw [← hg]; rfl
    · by_cases h3 : i = 257
      · subst h3; rw [h.c2] at hg; injection hg with hg; rw [← hg]; rfl
      · obtain rfl : i = 258 := by omega
        rw [h.c3] at hg; injection hg with hg; rw [← hg]; rfl
end Go.Proofs.YtlmkokeapbleoaaGreat
end
section
namespace Go.Proofs.YtlmkokeapbleoaaGreat
open Go.RowKit
def CompSaid (d : DescI) (T : TabL) (v : Int) : Prop :=
  (v = 2 ∧ ¬ (DescOk d.L ∧ d.i = 1 ∧ d.o = 1) ∧ T = zeroTab.L) ∨
  ((DescOk d.L ∧ d.i = 1 ∧ d.o = 1) ∧ (
    (v = 1 ∧ ¬ FreeI d.rs ∧ T = zeroTab.L) ∨
    (FreeI d.rs ∧ (
      (v = 6 ∧ DClash d.L ∧ T = zeroTab.L) ∨
      (¬ DClash d.L ∧ (
        (v = 4 ∧ splitL [(0, 255)] (bodies (famI d)) = none ∧ T = zeroTab.L) ∨
        (∃ P, splitL [(0, 255)] (bodies (famI d)) = some P ∧ (
          (v = 4 ∧ layL d.L (P.map leastI) 4098 0 ⟨[(d.s, [])], [], []⟩ [] = none ∧ T = zeroTab.L) ∨
          (v = 0 ∧ ∃ x, layL d.L (P.map leastI) 4098 0 ⟨[(d.s, [])], [], []⟩ [] = some x ∧ T = tabL d.L (classes P 256) x)))))))))
def RetComp (w0 : World) (d : DescI) (F : World → Prop) (e : Ending) (w' : World) : Prop :=
  ∃ cs T v, e = .returned (.tuple #[.agg cs, .int .i64 v]) ∧ Hid (TabC cs T) ∧ Hid (St w0 w' (fun W => TabW T W ∧ F W)) ∧ Hid (CompSaid d T.L v)
def famL (D : DescL) : List (List Sp) := D.rules.flatMap (·.gs) ++ D.fins.flatMap (·.gs)
theorem bodies_flat {α : Type} (l : List α) (f : α → List (Item Sp)) : bodies (l.flatMap f) = l.flatMap fun x => bodies (f x) := by
  unfold bodies
  rw [List.map_flatMap]
theorem famI_L (d : DescI) : bodies (famI d) = famL d.L := by
  have h1 : bodies (d.rs.flatMap (·.gs) ++ d.fs.flatMap (·.gs)) = bodies (d.rs.flatMap (·.gs)) ++ bodies (d.fs.flatMap (·.gs)) := by unfold bodies; rw [List.map_append]
  show bodies (d.rs.flatMap (·.gs) ++ d.fs.flatMap (·.gs)) = (d.rs.map RuleI.L).flatMap (·.gs) ++ (d.fs.map FinI.L).flatMap (·.gs)
  rw [h1, bodies_flat, bodies_flat, List.flatMap_map, List.flatMap_map]
  rfl
end Go.Proofs.YtlmkokeapbleoaaGreat
end
section
namespace Go.Proofs.YtlmkokeapbleoaaGreat
namespace Drv
structure M where
  nxt : Nat → Int → Int
  eat : Nat → Nat
  dst : Nat → Nat
  wr : Nat → List Int → List Int
structure S where
  node : Nat
  held : List Int
  rej : Bool
def rejd : S := ⟨0, [], true⟩
def step (m : M) (s : S) (x : Int) : S × List Int × List Int :=
  if 0 ≤ m.nxt s.node x then (⟨(m.nxt s.node x).toNat, s.held ++ [x], false⟩, [], [])
  else if m.nxt s.node x = -1 then (rejd, [], [])
  else (⟨m.dst (-2 - m.nxt s.node x).toNat, [], false⟩, m.wr (-2 - m.nxt s.node x).toNat (s.held ++ [x]),
    (s.held ++ [x]).drop (max 1 (m.eat (-2 - m.nxt s.node x).toNat)))
theorem step_dec (m : M) (s : S) (x : Int) (r : List Int) :
    (step m s x).1.held.length + ((step m s x).2.2 ++ r).length < s.held.length + (r.length + 1) ∨
    ((step m s x).1.held.length + ((step m s x).2.2 ++ r).length = s.held.length + (r.length + 1) ∧
      ((step m s x).2.2 ++ r).length < r.length + 1) := by
  unfold step
  split
  · right; simp; omega
  · split
    · left; simp [rejd]; omega
    · left; simp; omega
def go (m : M) (s : S) : List Int → S × List Int
  | [] => (s, [])
  | x :: r =>
    if s.rej then (s, []) else
    ((go m (step m s x).1 ((step m s x).2.2 ++ r)).1,
      (step m s x).2.1 ++ (go m (step m s x).1 ((step m s x).2.2 ++ r)).2)
termination_by t => (s.held.length + t.length, t.length)
decreasing_by
  all_goals
    have h := step_dec m s x r
    simp only [List.length_cons]
    rcases h with h | ⟨h, h'⟩
    · exact Prod.Lex.left _ _ h
    · rw [h]; exact Prod.Lex.right _ h'
theorem go_nil (m : M) (s : S) : go m s [] = (s, []) := by rw [go]
theorem go_rej (m : M) (s : S) (h : s.rej = true) (t : List Int) : go m s t = (s, []) := by
  cases t with
  | nil => rw [go]
  | cons x r => rw [go, if_pos h]
theorem go_cons (m : M) (s : S) (h : s.rej = false) (x : Int) (r : List Int) :
    go m s (x :: r) = ((go m (step m s x).1 ((step m s x).2.2 ++ r)).1,
      (step m s x).2.1 ++ (go m (step m s x).1 ((step m s x).2.2 ++ r)).2) := by
  rw [go, if_neg (by simp [h])]
structure Right (m : M) (H : Nat → Nat) (N A most : Nat) : Prop where
  zero : H 0 = 0
  pos : 0 < N
  next : ∀ k x, k < N → 0 ≤ m.nxt k x → (m.nxt k x).toNat < N ∧ H (m.nxt k x).toNat = H k + 1
  act : ∀ k x, k < N → m.nxt k x < -1 → (-2 - m.nxt k x).toNat < A ∧ m.eat (-2 - m.nxt k x).toNat ≤ H k + 1
  eat : ∀ a, a < A → 1 ≤ m.eat a
  dst : ∀ a, a < A → m.dst a < N ∧ H (m.dst a) = 0
  wr : ∀ a w, a < A → (m.wr a w).length ≤ most
structure Ok (H : Nat → Nat) (N : Nat) (s : S) : Prop where
  lt : s.node < N
  held : s.held.length = H s.node
  rej : s.rej = true → s = rejd
theorem Ok.step {m : M} {H : Nat → Nat} {N A most : Nat} (hr : Right m H N A most) {s : S} (h : Ok H N s) (x : Int) :
    Ok H N (step m s x).1 := by
  unfold Drv.step
  split
  · rename_i h0
    have := hr.next s.node x h.lt h0
    exact ⟨this.1, by simp [this.2, h.held], by simp⟩
  · split
    · exact ⟨hr.pos, by simp [rejd, hr.zero], fun _ => rfl⟩
    · rename_i h0 h1
      have := hr.act s.node x h.lt (by omega)
      have h2 := hr.dst _ this.1
      exact ⟨h2.1, by simp [h2.2], by simp⟩
theorem Ok.go {m : M} {H : Nat → Nat} {N A most : Nat} (hr : Right m H N A most) : ∀ (s : S) (xs : List Int),
    Ok H N s → Ok H N (go m s xs).1 := by
  intro s xs
  induction s, xs using go.induct (m := m) with
  | case1 s => intro h; rw [go_nil]; exact h
  | case2 s x r hq => intro h; rw [go_rej m s hq]; exact h
  | case3 s x r hq ih =>
    intro h
    rw [go_cons m s (by simpa using hq)]
    exact ih (h.step hr x)
theorem bound_step {m : M} {H : Nat → Nat} {N A most : Nat} (hr : Right m H N A most) {s : S} (h : Ok H N s) (x : Int) :
    (step m s x).2.1.length + most * ((step m s x).1.held.length + (step m s x).2.2.length) ≤ most * (s.held.length + 1) := by
  unfold step
  split
  · simp
  · split
    · simp [rejd]
    · rename_i h0 h1
      have ha := hr.act s.node x h.lt (by omega)
      have hw := hr.wr _ (s.held ++ [x]) ha.1
      have he := hr.eat _ ha.1
      generalize (-2 - m.nxt s.node x).toNat = a at *
      have hm : max 1 (m.eat a) = m.eat a := by omega
      simp only [hm, List.length_nil, List.length_drop, List.length_append, List.length_cons, Nat.zero_add]
      have : most * (s.held.length + 1 - m.eat a) ≤ most * s.held.length := Nat.mul_le_mul_left _ (by omega)
      rw [Nat.mul_add, Nat.mul_one]; omega
theorem bound {m : M} {H : Nat → Nat} {N A most : Nat} (hr : Right m H N A most) : ∀ (s : S) (xs : List Int),
    Ok H N s → (go m s xs).2.length + most * (go m s xs).1.held.length ≤ most * (s.held.length + xs.length) := by
  intro s xs
  induction s, xs using go.induct (m := m) with
  | case1 s => intro _; rw [go_nil]; simp
  | case2 s x r hq => intro h; rw [go_rej m s hq]; simp; exact Nat.mul_le_mul_left _ (by omega)
  | case3 s x r hq ih =>
    intro h
    rw [go_cons m s (by simpa using hq)]
    have h1 := ih (h.step hr x)
    have h2 := bound_step hr h x
    simp only [List.length_append, List.length_cons] at h1 ⊢
    rw [Nat.mul_add] at *
    rw [Nat.mul_add] at h1 h2 ⊢
    rw [Nat.mul_one] at *
    omega
end Drv
end Go.Proofs.YtlmkokeapbleoaaGreat
end
section
namespace Go.Proofs.YtlmkokeapbleoaaGreat
def mostL (T : TabL) : Nat := (T.ends.map List.length).foldl max ((T.acts.map fun a => a.out.length).foldl max 0)
end Go.Proofs.YtlmkokeapbleoaaGreat
end
section
namespace Go.Proofs.YtlmkokeapbleoaaGreat
def heldC : List Int := (List.range 256).map fun x => if x = 97 then 1 else if x = 98 then 2 else 0
def heldX : TermL := ⟨0, 0, 21, 0, 120, []⟩
def heldT : TabL := ⟨heldC, [⟨0, [-1, 1, -1], 0⟩, ⟨1, [-2, -2, -3], -1⟩], [⟨2, 0, []⟩, ⟨1, 0, [heldX]⟩], [[]]⟩
theorem heldC_lt : ∀ c ∈ heldC, 0 ≤ c ∧ c < 3 := by
  intro c hc
  obtain ⟨x, _, rfl⟩ := List.mem_map.1 hc
  split
  · omega
  · split <;> omega
theorem heldX_ok (n : Int) : TermOk n heldX :=
  ⟨⟨⟨by decide, by decide⟩, ⟨by decide, by decide⟩, ⟨by decide, by decide, by decide, by decide, by decide, by decide, .inl rfl⟩, ⟨fun i p q hp => (by simp [heldX] at hp), by decide⟩⟩, fun p hp => (by cases hp)⟩
theorem heldT_ok : TabOk heldT := by
  have hw : widthL heldT = 3 := rfl
  refine ⟨⟨by decide, by decide, by decide, _, rfl, rfl, by decide, by decide⟩, fun c hc => ?_, fun a ha => ?_, fun l hl => ?_, fun n hn => ?_⟩
  · rw [hw]; exact (heldC_lt c hc).2
  · rcases List.mem_cons.1 ha with h | ha
    · subst h; exact ⟨by decide, by decide, by decide, ⟨_, rfl, rfl⟩, by decide⟩
    · obtain rfl := List.mem_singleton.1 ha
      exact ⟨by decide, by decide, by decide, ⟨_, rfl, rfl⟩, by decide⟩
  · obtain rfl := List.mem_singleton.1 hl; decide
  · rw [hw]
    rcases List.mem_cons.1 hn with h | hn
    · subst h
      refine ⟨⟨by decide, by decide, rfl, by decide, by decide⟩, fun _ => ⟨_, rfl, fun t ht => (by cases ht)⟩, fun x hx => ?_⟩
      rcases List.mem_cons.1 hx with h | hx
      · exact .inl h
      · rcases List.mem_cons.1 hx with h | hx
        · subst h; exact .inr ⟨by decide, .inl ⟨by decide, _, rfl, rfl⟩⟩
        · exact .inl (List.mem_singleton.1 hx)
    · obtain rfl := List.mem_singleton.1 hn
      refine ⟨⟨by decide, by decide, rfl, by decide, by decide⟩, fun h => absurd h (by decide), fun x hx => ?_⟩
      rcases List.mem_cons.1 hx with h | hx
      · subst h; exact .inr ⟨by decide, .inr ⟨by decide, _, rfl, by decide, fun t ht => (by cases ht)⟩⟩
      · rcases List.mem_cons.1 hx with h | hx
        · subst h; exact .inr ⟨by decide, .inr ⟨by decide, _, rfl, by decide, fun t ht => (by cases ht)⟩⟩
        · obtain rfl := List.mem_singleton.1 hx
          refine .inr ⟨by decide, .inr ⟨by decide, _, rfl, by decide, fun t ht => ?_⟩⟩
          obtain rfl := List.mem_singleton.1 ht
          exact heldX_ok _
theorem heldX_val {w : List Int} (h : WinOk w) : pB (ValOk heldX w) = true ∧ valN heldX w = 120 := by
  have hi : innerT heldX w = 120 := by simp [innerT, innerTo, heldX]
  have hv : ValOk heldX w := ⟨h, fun p hp => (by cases hp), by rw [hi]; decide, by rw [hi]; decide, by rw [hi]; decide⟩
  refine ⟨pB_true hv, ?_⟩
  unfold valN
  rw [hi]; decide
theorem held_most : mostL heldT = 1 := by decide
end Go.Proofs.YtlmkokeapbleoaaGreat
end
section
namespace Go.Proofs.YtlmkokeapbleoaaGreat
open Go.RowKit
def heldA : List Sp := [(97, 97)]
def heldB : List Sp := [(98, 98)]
def heldN : List Sp := [(0, 97), (99, 255)]
def heldD : DescL := ⟨1, 1, 1, 0, [⟨0, 0, [heldA, heldB], 1, [heldX]⟩, ⟨0, 0, [heldA, heldN], 2, []⟩], [⟨0, [], []⟩]⟩
def heldP : List (List Sp) := [[(0, 96), (99, 255)], [(97, 97)], [(98, 98)]]
theorem held_guard {g : List Sp} (h : g = heldA ∨ g = heldB ∨ g = heldN) : GuardOk 1 g := by
  rcases h with rfl | rfl | rfl
  · exact ⟨by simp [heldA], by simp [heldA], by simp [heldA, Plain, PlainF], fun x hx => by rw [inD_iff]; simp only [heldA, Mem, InS, or_false] at hx; omega⟩
  · exact ⟨by simp [heldB], by simp [heldB], by simp [heldB, Plain, PlainF], fun x hx => by rw [inD_iff]; simp only [heldB, Mem, InS, or_false] at hx; omega⟩
  · exact ⟨by simp [heldN], by simp [heldN], by simp [heldN, Plain, PlainF], fun x hx => by rw [inD_iff]; simp only [heldN, Mem, InS, or_false] at hx; omega⟩
theorem held_fits (gs : List (List Sp)) : FitsP 1 1 gs heldX := by
  have h := heldX_ok (gs.length : Int)
  refine ⟨⟨.inl rfl, .inl rfl, h.1, fun p hp => (by cases hp), fun h => (by cases h), fun h => (by cases h)⟩, fun w hw => ?_⟩
  have h2 := heldX_val hw.2
  refine ⟨pB_iff.1 h2.1, ?_⟩
  rw [h2.2, inD_iff]; omega
theorem heldD_ok : DescOk heldD := by
  refine ⟨⟨.inl rfl, .inl rfl, by decide, by decide, ⟨by decide, by decide⟩, by decide, by decide⟩, fun r hr => ?_, fun f hf => ?_, ?_⟩
  · rcases List.mem_cons.1 hr with rfl | hr
    · refine ⟨⟨by decide, by decide⟩, ⟨by decide, by decide⟩, ⟨by simp, fun g hg => held_guard ?_⟩, by simp <;> decide, by simp, by simp, fun t ht => ?_⟩
      · simp at hg; rcases hg with rfl | rfl <;> simp
      · rw [List.mem_singleton] at ht; subst ht; exact held_fits _
    · rw [List.mem_singleton] at hr; subst hr
      refine ⟨⟨by decide, by decide⟩, ⟨by decide, by decide⟩, ⟨by simp, fun g hg => held_guard ?_⟩, by simp <;> decide, by simp, by simp, fun t ht => (by cases ht)⟩
      simp at hg; rcases hg with rfl | rfl <;> simp
  · have hf' : f = ⟨0, [], []⟩ := by simpa [heldD] using hf
    subst hf'
    exact ⟨⟨by decide, by decide⟩, ⟨by simp, fun g hg => (by cases hg)⟩, by simp, fun t ht => (by cases ht)⟩
  · unfold CycP; decide
theorem held_free : FreeP heldD := by
  intro r hr
  simp [heldD] at hr
  rcases hr with rfl | rfl <;> simp
theorem held_noclash : ¬ DClash heldD := by
  rintro ⟨i, k, a, b, hik, ha, hb, h1, h2, h3, h4⟩
  have hk : k < 3 := by
    have := (List.getElem?_eq_some_iff.1 hb).1
    simpa [heldD] using this
  have h5 : (i = 0 ∧ k = 1) ∨ (i = 0 ∧ k = 2) ∨ (i = 1 ∧ k = 2) := by omega
  rcases h5 with ⟨rfl, rfl⟩ | ⟨rfl, rfl⟩ | ⟨rfl, rfl⟩
  · simp [heldD] at ha hb
    subst ha; subst hb
    obtain ⟨x, hx, hy⟩ := h4 1 heldB heldN rfl rfl
    simp only [heldB, heldN, Mem, InS, or_false] at hx hy
    omega
  · simp [heldD] at ha hb
    subst ha; subst hb
    have := h3 rfl rfl
    simp at this
  · simp [heldD] at ha hb
    subst ha; subst hb
    have := h3 rfl rfl
    simp at this
theorem held_split : splitL [(0, 255)] (famL heldD) = some heldP := by
  have m1 : meetM [(0, 255)] [(97, 97)] = [(97, 97)] := meetL_eq ⟨by simp [Plain, PlainF], fun x => by simp only [InS, Mem, or_false]; omega⟩
  have d1 : minusL [(0, 255)] [(97, 97)] = [(0, 96), (98, 255)] := minusL_eq ⟨by simp [Plain, PlainF], fun x => by simp only [InS, Mem, or_false]; omega⟩
  have m2 : meetM [(0, 96), (98, 255)] [(98, 98)] = [(98, 98)] := meetL_eq ⟨by simp [Plain, PlainF], fun x => by simp only [InS, Mem, or_false]; omega⟩
  have d2 : minusL [(0, 96), (98, 255)] [(98, 98)] = [(0, 96), (99, 255)] := minusL_eq ⟨by simp [Plain, PlainF], fun x => by simp only [InS, Mem, or_false]; omega⟩
  have m3 : meetM [(97, 97)] [(98, 98)] = [] := meetL_eq ⟨by simp [Plain, PlainF], fun x => ⟨fun h => h.elim, fun h => by simp only [InS, Mem, or_false] at h; omega⟩⟩
  have d3 : minusL [(97, 97)] [(98, 98)] = [(97, 97)] := minusL_eq ⟨by simp [Plain, PlainF], fun x => by simp only [InS, Mem, or_false]; omega⟩
  have m4 : meetM [(0, 96), (99, 255)] [(97, 97)] = [] := meetL_eq ⟨by simp [Plain, PlainF], fun x => ⟨fun h => h.elim, fun h => by simp only [InS, Mem, or_false] at h; omega⟩⟩
  have d4 : minusL [(0, 96), (99, 255)] [(97, 97)] = [(0, 96), (99, 255)] := minusL_eq ⟨by simp [Plain, PlainF], fun x => by simp only [InS, Mem, or_false]; omega⟩
  have m5 : meetM [(97, 97)] [(97, 97)] = [(97, 97)] := meetL_eq ⟨by simp [Plain, PlainF], fun x => by simp only [InS, Mem, or_false]; omega⟩
  have d5 : minusL [(97, 97)] [(97, 97)] = [] := minusL_eq ⟨by simp [Plain, PlainF], fun x => ⟨fun h => h.elim, fun h => by simp only [InS, Mem, or_false] at h; omega⟩⟩
  have m6 : meetM [(98, 98)] [(97, 97)] = [] := meetL_eq ⟨by simp [Plain, PlainF], fun x => ⟨fun h => h.elim, fun h => by simp only [InS, Mem, or_false] at h; omega⟩⟩
  have d6 : minusL [(98, 98)] [(97, 97)] = [(98, 98)] := minusL_eq ⟨by simp [Plain, PlainF], fun x => by simp only [InS, Mem, or_false]; omega⟩
  have m7 : meetM [(0, 96), (99, 255)] [(0, 97), (99, 255)] = [(0, 96), (99, 255)] := meetL_eq ⟨by simp [Plain, PlainF], fun x => by simp only [InS, Mem, or_false]; omega⟩
  have d7 : minusL [(0, 96), (99, 255)] [(0, 97), (99, 255)] = [] := minusL_eq ⟨by simp [Plain, PlainF], fun x => ⟨fun h => h.elim, fun h => by simp only [InS, Mem, or_false] at h; omega⟩⟩
  have m8 : meetM [(97, 97)] [(0, 97), (99, 255)] = [(97, 97)] := meetL_eq ⟨by simp [Plain, PlainF], fun x => by simp only [InS, Mem, or_false]; omega⟩
  have d8 : minusL [(97, 97)] [(0, 97), (99, 255)] = [] := minusL_eq ⟨by simp [Plain, PlainF], fun x => ⟨fun h => h.elim, fun h => by simp only [InS, Mem, or_false] at h; omega⟩⟩
  have m9 : meetM [(98, 98)] [(0, 97), (99, 255)] = [] := meetL_eq ⟨by simp [Plain, PlainF], fun x => ⟨fun h => h.elim, fun h => by simp only [InS, Mem, or_false] at h; omega⟩⟩
  have d9 : minusL [(98, 98)] [(0, 97), (99, 255)] = [(98, 98)] := minusL_eq ⟨by simp [Plain, PlainF], fun x => by simp only [InS, Mem, or_false]; omega⟩
  have p1 : parts [(97, 97)] [] [[(0, 255)]] = [[(97, 97)], [(0, 96), (98, 255)]] := by simp [parts, m1, d1, addL]
  have s1 : stabS [[(97, 97)], [(0, 96), (98, 255)]] = [[(0, 96), (98, 255)], [(97, 97)]] := stabS_eq ⟨[1, 0], by decide, by simp, by simp [keyS]⟩
  have p2 : parts [(98, 98)] [] [[(0, 96), (98, 255)], [(97, 97)]] = [[(98, 98)], [(0, 96), (99, 255)], [(97, 97)]] := by simp [parts, m2, d2, m3, d3, addL]
  have s2 : stabS [[(98, 98)], [(0, 96), (99, 255)], [(97, 97)]] = heldP := stabS_eq ⟨[1, 2, 0], by decide, by simp [heldP], by simp [keyS]⟩
  have p3 : parts [(97, 97)] [] heldP = heldP := by simp [heldP, parts, m4, d4, m5, d5, m6, d6, addL]
  have s3 : stabS heldP = heldP := stabS_eq ⟨[0, 1, 2], by decide, by simp [heldP], by simp [heldP, keyS]⟩
  have p4 : parts [(0, 97), (99, 255)] [] heldP = heldP := by simp [heldP, parts, m7, d7, m8, d8, m9, d9, addL]
  have hf : famL heldD = [[(97, 97)], [(98, 98)], [(97, 97)], [(0, 97), (99, 255)]] := rfl
  rw [hf]
  unfold splitL
  rw [if_neg (by simp)]
  simp only [splitF]
  rw [p1, if_neg (by simp), s1, p2, if_neg (by simp), s2, p3, if_neg (by simp [heldP]), s3, p4, if_neg (by simp [heldP]), s3]
theorem normL_self {l : List Sp} (h : Plain l) : normL l = l := Rep.unique (normL_rep l).out (Rep.self h) (fun _ => Iff.rfl)
theorem held_least : heldP.map leastI = [0, 97, 98] := by
  unfold heldP
  simp only [List.map_cons, List.map_nil, leastI]
  rw [normL_self (by simp [Plain, PlainF]), normL_self (by simp [Plain, PlainF]), normL_self (by simp [Plain, PlainF])]
  rfl
theorem held_classes : classes heldP 256 = heldC := by decide +kernel
theorem held_lay : layL heldD [0, 97, 98] 4098 0 ⟨[(0, [])], [], []⟩ [] = some (⟨[(0, []), (0, [1])], [1, 0], [0]⟩, [⟨0, [-1, 1, -1], 0⟩, ⟨1, [-2, -2, -3], -1⟩]) := by kernel_rfl
theorem held_tab : tabL heldD heldC (⟨[(0, []), (0, [1])], [1, 0], [0]⟩, [⟨0, [-1, 1, -1], 0⟩, ⟨1, [-2, -2, -3], -1⟩]) = heldT := by kernel_rfl
theorem held_said {d : DescI} {T : TabL} {v : Int} (hd : d.L = heldD) (h : CompSaid d T v) : v = 0 ∧ T = heldT := by
  have hi : d.i = 1 := congrArg DescL.i hd
  have ho : d.o = 1 := congrArg DescL.o hd
  have hs : d.s = 0 := congrArg DescL.s hd
  rcases h with ⟨_, h, _⟩ | ⟨_, h⟩
  · exact absurd ⟨by rw [hd]; exact heldD_ok, hi, ho⟩ h
  rcases h with ⟨_, h, _⟩ | ⟨_, h⟩
  · refine absurd (fun r hr hg => ?_) h
    have h2 := held_free r.L (by rw [← hd]; exact List.mem_map.2 ⟨r, hr, rfl⟩)
    exact h2 (by unfold RuleI.L; rw [hg]; rfl)
  rcases h with ⟨_, h, _⟩ | ⟨_, h⟩
  · rw [hd] at h; exact absurd h held_noclash
  rw [famI_L, hd, held_split] at h
  rcases h with ⟨_, h, _⟩ | ⟨P, hP, h⟩
  · cases h
  injection hP with hP
  subst hP
  rw [held_least, hs, held_lay, held_classes] at h
  rcases h with ⟨_, h, _⟩ | ⟨hv, x, hx, hT⟩
  · cases h
  injection hx with hx
  subst hx
  exact ⟨hv, hT.trans held_tab⟩
end Go.Proofs.YtlmkokeapbleoaaGreat
end
section
namespace Go.Proofs.YtlmkokeapbleoaaGreat
open Go.RowKit
theorem results_cell1 {P : Program} {fn : Func} {p : Tmp} {ty : TypeId} (h : fn.results = #[.cell p ty]) (tmps : Array Value) (w : World) (g : Nat) (t : TypeId) (cs : Array Value) (fr : Nat × Nat) (d : TypeDesc)
    (hp : tmps.getD p undef = .pointer (some ⟨g, 0, none⟩)) (hg : w.heap[g]? = some (.cells cs t fr))
    (hu : P.underlying ty = some d) (hd : (match d with | .struct _ | .array _ _ => true | _ => false) = true) (hi : (P.info? ty).map (·.size) = some cs.size) :
    (results fn tmps).run P w = .ok (.agg cs) w := by
  have hp' : tmps[p]?.getD undef = .pointer (some ⟨g, 0, none⟩) := by simpa using hp
  simp [results, h, hp', asAddr, run_loadVar_row w g t ty cs fr d hg hu hd hi]
theorem infoDescS : (Tryz.prog.info? 26).map (·.size) = some 6 := by kernel_rfl
def allocL : World → List Obj → World
  | w, [] => w
  | w, o :: l => allocL (w.alloc o) l
theorem allocL_old (l : List Obj) : ∀ (w : World) (k : Nat), k < w.heap.size → (allocL w l).heap[k]? = w.heap[k]? := by
  induction l with
  | nil => intro w k _; rfl
  | cons o l ih => intro w k hk; rw [allocL, ih _ _ (by simp; omega), Below.heap_alloc _ _ _ hk]
theorem allocL_at (l : List Obj) : ∀ (w : World) (i : Nat) (o : Obj), l[i]? = some o → (allocL w l).heap[w.heap.size + i]? = some o := by
  induction l with
  | nil => intro w i o h; cases h
  | cons x l ih =>
    intro w i o h
    rw [allocL]
    cases i with
    | zero =>
      injection h with h
      subst h
      rw [allocL_old _ _ _ (by simp)]
      exact heap_alloc_new w x
    | succ i =>
      have h2 := ih (w.alloc x) i o h
      rw [show (w.alloc x).heap.size + i = w.heap.size + (i + 1) by simp; omega] at h2
      exact h2
theorem allocL_below (l : List Obj) : ∀ (w w0 : World) (n : Nat), Below n w0 w → n ≤ w.heap.size → Below n w0 (allocL w l) := by
  induction l with
  | nil => intro w w0 n h _; exact h
  | cons o l ih => intro w w0 n h hn; exact ih _ _ _ (h.alloc hn o) (by simp; omega)
theorem blk_sl {W : World} {size b n : Nat} {cs : Array Value} {t : TypeId} {fr : Nat × Nat} (h : W.heap[b]? = some (.cells cs t fr)) (hn : cs.toList.length = n * size) : Sl W size (some ⟨b, 0, none⟩) n cs.toList := by
  refine ⟨hn, fun _ => ⟨_, _, rfl, fun j u hu => ?_⟩⟩
  simp only [World.cell?, h]
  simpa using hu
def heldI (b : Nat) : DescI := ⟨1, 1, 1, 0, some ⟨b + 8, 0, none⟩, 2,
  [⟨0, 0, some ⟨b + 5, 0, none⟩, 2, [(some ⟨b + 1, 0, none⟩, 1, [(97, 97)]), (some ⟨b + 2, 0, none⟩, 1, [(98, 98)])], 1, ⟨some ⟨b + 6, 0, none⟩, 1, [⟨0, 0, 21, 0, 120, none, 0, []⟩]⟩⟩,
   ⟨0, 0, some ⟨b + 7, 0, none⟩, 2, [(some ⟨b + 1, 0, none⟩, 1, [(97, 97)]), (some ⟨b + 3, 0, none⟩, 2, [(0, 97), (99, 255)])], 2, ⟨none, 0, []⟩⟩],
  some ⟨b + 4, 0, none⟩, 1, [⟨0, none, 0, [], ⟨none, 0, []⟩⟩]⟩
theorem heldI_L (b : Nat) : (heldI b).L = heldD := rfl
def heldCs (b : Nat) : Array Value := #[.int .i64 1, .int .i64 1, .int .i64 1, .int .i64 0, .slice (some ⟨b + 8, 0, none⟩) 2 2, .slice (some ⟨b + 4, 0, none⟩) 1 1]
def heldO (b : Nat) : List Obj := [.cells (heldCs b) 26,
  .cells #[.int .i64 97, .int .i64 97] 129, .cells #[.int .i64 98, .int .i64 98] 129, .cells #[.int .i64 0, .int .i64 97, .int .i64 99, .int .i64 255] 129,
  .cells #[.int .i64 0, .slice none 0 0, .slice none 0 0] 134, .cells #[.slice (some ⟨b + 1, 0, none⟩) 1 1, .slice (some ⟨b + 2, 0, none⟩) 1 1] 103,
  .cells #[.int .i64 0, .int .i64 0, .int .i64 21, .int .i64 0, .int .i64 120, .slice none 0 0] 68,
  .cells #[.slice (some ⟨b + 1, 0, none⟩) 1 1, .slice (some ⟨b + 3, 0, none⟩) 2 2] 103,
  .cells #[.int .i64 0, .int .i64 0, .slice (some ⟨b + 5, 0, none⟩) 2 2, .int .i64 1, .slice (some ⟨b + 6, 0, none⟩) 1 1, .int .i64 0, .int .i64 0, .slice (some ⟨b + 7, 0, none⟩) 2 2, .int .i64 2, .slice none 0 0] 102]
theorem spw_all {l : List Sp} (h : ∀ p ∈ l, -1073741824 ≤ p.1 ∧ p.1 ≤ 1073741824 ∧ -1073741824 ≤ p.2 ∧ p.2 ≤ 1073741824) : SpW l := by
  intro p hp
  have h2 := h p hp
  omega
theorem held_W {W : World} {b : Nat} (h : ∀ i o, 0 < i → (heldO b)[i]? = some o → W.heap[b + i]? = some o) : DescW (heldI b) W := by
  have h1 := blk_sl (size := 2) (n := 1) (h 1 _ (by omega) rfl) rfl
  have h2 := blk_sl (size := 2) (n := 1) (h 2 _ (by omega) rfl) rfl
  have h3 := blk_sl (size := 2) (n := 2) (h 3 _ (by omega) rfl) rfl
  have h4 := blk_sl (size := 3) (n := 1) (h 4 _ (by omega) rfl) rfl
  have h5 := blk_sl (size := 1) (n := 2) (h 5 _ (by omega) rfl) rfl
  have h6 := blk_sl (size := 6) (n := 1) (h 6 _ (by omega) rfl) rfl
  have h7 := blk_sl (size := 1) (n := 2) (h 7 _ (by omega) rfl) rfl
  have h8 := blk_sl (size := 5) (n := 2) (h 8 _ (by omega) rfl) rfl
  have l1 : Lst (some ⟨b + 1, 0, none⟩) [(97, 97)] W := ⟨h1, spw_all (by intro p hp; simp at hp; subst hp; decide), by decide⟩
  have l2 : Lst (some ⟨b + 2, 0, none⟩) [(98, 98)] W := ⟨h2, spw_all (by intro p hp; simp at hp; subst hp; decide), by decide⟩
  have l3 : Lst (some ⟨b + 3, 0, none⟩) [(0, 97), (99, 255)] W := ⟨h3, spw_all (by intro p hp; simp at hp; rcases hp with rfl | rfl <;> decide), by decide⟩
  have i0 : I64 0 := i64_0
  have i1 : I64 1 := by unfold I64; decide
  have i2 : I64 2 := by unfold I64; decide
  have i21 : I64 21 := by unfold I64; decide
  have i120 : I64 120 := by unfold I64; decide
  refine ⟨⟨i1, i1, i1, i0⟩, ⟨h8, fun r hr => ?_, by show 2 ≤ 9223372036854775807; omega⟩, ⟨h4, fun f hf => ?_, by show 1 ≤ 9223372036854775807; omega⟩⟩
  · rcases List.mem_cons.1 hr with rfl | hr
    · refine ⟨⟨i0, i0, i1⟩, ⟨⟨h5, fun i hi => ?_⟩, by show 2 ≤ 9223372036854775807; omega⟩, ⟨h6, fun x hx => ?_, by show 1 ≤ 9223372036854775807; omega⟩⟩
      · rcases List.mem_cons.1 hi with rfl | hi
        · exact l1
        · obtain rfl := List.mem_singleton.1 hi; exact l2
      · obtain rfl := List.mem_singleton.1 hx
        exact ⟨⟨i0, i0, i21, i0, i120⟩, RowsAt.nil_ _ _ _ _ _⟩
    · obtain rfl := List.mem_singleton.1 hr
      refine ⟨⟨i0, i0, i2⟩, ⟨⟨h7, fun i hi => ?_⟩, by show 2 ≤ 9223372036854775807; omega⟩, RowsAt.nil_ _ _ _ _ _⟩
      rcases List.mem_cons.1 hi with rfl | hi
      · exact l1
      · obtain rfl := List.mem_singleton.1 hi; exact l3
  · obtain rfl := List.mem_singleton.1 hf
    exact ⟨i0, ⟨⟨⟨rfl, fun h => absurd h (by decide)⟩, fun i hi => (by cases hi)⟩, by show 0 ≤ 9223372036854775807; omega⟩, RowsAt.nil_ _ _ _ _ _⟩
section
variable {w0 w : World} {F : World → Prop}
theorem held_end (hK : Hid (St w0 w F)) : Hid (St w0 (allocL w (heldO w.heap.size)) (fun W => DescW (heldI w.heap.size) W ∧ F W)) := by
  have hb : Below w.heap.size w (allocL w (heldO w.heap.size)) := allocL_below _ _ _ _ (Below.refl _ _) (Nat.le_refl _)
  have hd : DescW (heldI w.heap.size) (allocL w (heldO w.heap.size)) := held_W fun i o hi ho => allocL_at _ _ _ _ ho
  exact Lib.hid (hK.out.add hb fun V hV => hd.below (fun A l w w' h hb => h.below hb) hV)
theorem held17_st (hK : Hid (St w0 w F)) : Calls Tryz.prog 70 #[] w fun e w' => ∃ b, e = .returned (.agg (heldCs b)) ∧ Hid (St w0 w' (fun W => DescW (heldI b) W ∧ F W)) := by
  go_enter Tryz.func70, Tryz.ntmps70
  go_wp2_with fail
  exact bodyPost_ret (v := .agg (heldCs w.heap.size)) (results_cell1 rfl _ _ w.heap.size 26 (heldCs w.heap.size) (0, 0) _ rfl (allocL_at (heldO w.heap.size) w 0 _ rfl) Tryz.underlying26 rfl infoDescS) rfl ⟨w.heap.size, rfl, held_end hK⟩
theorem held_stage (b : Nat) : StageD (heldI b) := stageD _
end
end Go.Proofs.YtlmkokeapbleoaaGreat
end
section
namespace Go.Proofs.YtlmkokeapbleoaaGreat
open Go.RowKit
def cntX (P : List (List Sp)) (x : Int) : Nat := P.countP fun b => hasB b x
theorem cntX_append (P Q : List (List Sp)) (x : Int) : cntX (P ++ Q) x = cntX P x + cntX Q x := by unfold cntX; rw [List.countP_append]
theorem cntX_one (b : List Sp) (x : Int) : cntX [b] x = if hasB b x then 1 else 0 := by
  unfold cntX; rw [List.countP_cons, List.countP_nil]; simp
theorem hasB_nil (x : Int) : hasB [] x = false := by
  rw [← Bool.not_eq_true, hasB_iff]; rintro ⟨_, _, h⟩; exact h
theorem cntX_addL (P : List (List Sp)) (b : List Sp) (x : Int) : cntX (addL P b) x = cntX P x + cntX [b] x := by
  unfold addL
  split
  · rename_i h; subst h; rw [cntX_one, hasB_nil]; simp
  · exact cntX_append _ _ _
theorem hasB_meet (b s : List Sp) (x : Int) : hasB (meetM b s) x = (hasB b x && hasB s x) := by
  rw [Bool.eq_iff_iff, hasB_iff, (meetL_rep b s).out.mem, Bool.and_eq_true, hasB_iff, hasB_iff]
theorem hasB_minus (b s : List Sp) (x : Int) : hasB (minusL b s) x = (hasB b x && !hasB s x) := by
  rw [Bool.eq_iff_iff, hasB_iff, (minusL_rep b s).out.mem, Bool.and_eq_true, hasB_iff, Bool.not_eq_true', ← Bool.not_eq_true, hasB_iff]
theorem cntX_parts (s : List Sp) (x : Int) (L P : List (List Sp)) : cntX (parts s P L) x = cntX P x + cntX L x := by
  induction L generalizing P with
  | nil => simp [parts, cntX]
  | cons b L ih =>
    have e : cntX (b :: L) x = cntX [b] x + cntX L x := cntX_append [b] L x
    rw [parts, ih, cntX_addL, cntX_addL, e, cntX_one, cntX_one, cntX_one, hasB_meet, hasB_minus]
    cases hasB b x <;> cases hasB s x <;> simp <;> omega
theorem StabRel.perm {P Q : List (List Sp)} (h : StabRel P Q) : Q.Perm P := by
  obtain ⟨ix, h1, rfl, _⟩ := h
  have h2 := h1.map (fun i => P[i]!)
  have e : (List.range P.length).map (fun i => P[i]!) = P := by
    apply List.ext_getElem?
    intro k
    rw [List.getElem?_map]
    by_cases hk : k < P.length
    · rw [List.getElem?_range hk, List.getElem?_eq_getElem hk]
      simp [List.getElem?_eq_getElem hk]
    · rw [List.getElem?_eq_none (by simp; omega), List.getElem?_eq_none (by omega)]; rfl
  rwa [e] at h2
theorem cntX_perm {P Q : List (List Sp)} (h : Q.Perm P) (x : Int) : cntX Q x = cntX P x := by unfold cntX; exact h.countP_eq _
theorem parts_mem {s c : List Sp} {L P : List (List Sp)} (h : c ∈ parts s P L) : c ∈ P ∨ ∃ b ∈ L, c = meetM b s ∨ c = minusL b s := by
  induction L generalizing P with
  | nil => exact .inl h
  | cons b L ih =>
    rcases ih h with h | ⟨b', h1, h2⟩
    · have key : ∀ (Q : List (List Sp)) (y : List Sp), c ∈ addL Q y → c ∈ Q ∨ c = y := by
        intro Q y hy
        unfold addL at hy
        split at hy
        · exact .inl hy
        · rcases List.mem_append.1 hy with hy | hy
          · exact .inl hy
          · exact .inr (by simpa using hy)
      rcases key _ _ h with h | h
      · rcases key _ _ h with h | h
        · exact .inl h
        · exact .inr ⟨b, by simp, .inl h⟩
      · exact .inr ⟨b, by simp, .inr h⟩
    · exact .inr ⟨b', List.mem_cons_of_mem _ h1, h2⟩
def alikeB (fam : List (List Sp)) (x y : Int) : Bool := fam.all fun s => hasB s x == hasB s y
theorem alikeB_snoc (fam : List (List Sp)) (s : List Sp) (x y : Int) : alikeB (fam ++ [s]) x y = (alikeB fam x y && (hasB s x == hasB s y)) := by simp [alikeB]
structure Blocks (r : List Sp) (fam P : List (List Sp)) : Prop where
  one : ∀ x, cntX P x = if hasB r x then 1 else 0
  same : ∀ b ∈ P, ∀ x y, hasB b x = true → (hasB b y = true ↔ (hasB r y = true ∧ alikeB fam x y = true))
theorem Blocks.start {r : List Sp} : Blocks r [] [r] := ⟨fun x => cntX_one r x, fun b hb x y hx => by simp at hb; subst hb; simp [alikeB]⟩
theorem Blocks.inr {r : List Sp} {fam P : List (List Sp)} (h : Blocks r fam P) {b : List Sp} (hb : b ∈ P) {x : Int} (hx : hasB b x = true) : hasB r x = true := ((h.same b hb x x hx).1 hx).1
theorem Blocks.next {r s : List Sp} {fam P : List (List Sp)} (h : Blocks r fam P) {Q : List (List Sp)} (hq : StabRel (parts s [] P) Q) : Blocks r (fam ++ [s]) Q := by
  refine ⟨fun x => ?_, fun c hc x y hx => ?_⟩
  · rw [cntX_perm hq.perm, cntX_parts, show cntX [] x = 0 from rfl, Nat.zero_add]; exact h.one x
  · have hc' := (hq.mem c).1 hc
    rcases parts_mem hc' with h0 | ⟨b, hb, rfl | rfl⟩
    · cases h0
    · rw [hasB_meet, Bool.and_eq_true] at hx
      rw [hasB_meet, Bool.and_eq_true, h.same b hb x y hx.1, alikeB_snoc, Bool.and_eq_true, hx.2, and_assoc]
      simp
    · rw [hasB_minus, Bool.and_eq_true, Bool.not_eq_true'] at hx
      rw [hasB_minus, Bool.and_eq_true, h.same b hb x y hx.1, alikeB_snoc, Bool.and_eq_true, hx.2, and_assoc]
      simp
theorem stab_ex (P : List (List Sp)) : ∃ Q, StabRel P Q := by
  let le : Nat → Nat → Bool := fun i j => decide (keyS P[i]! < keyS P[j]! ∨ (keyS P[i]! = keyS P[j]! ∧ i ≤ j))
  have hp := List.mergeSort_perm (List.range P.length) le
  have hw := List.pairwise_mergeSort (le := le) (fun a b c h1 h2 => by simp only [le, decide_eq_true_eq] at *; omega) (fun a b => by simp only [le, Bool.or_eq_true, decide_eq_true_eq]; omega) (List.range P.length)
  refine ⟨_, (List.range P.length).mergeSort le, hp, rfl, ?_⟩
  have hnd : ((List.range P.length).mergeSort le).Nodup := hp.nodup_iff.2 List.nodup_range
  rw [List.pairwise_iff_getElem] at hw ⊢
  intro i j hi hj hij
  have h1 := hw i j hi hj hij
  simp only [le, decide_eq_true_eq] at h1
  have h2 : ((List.range P.length).mergeSort le)[i] ≠ ((List.range P.length).mergeSort le)[j] := by
    intro e
    rw [List.Nodup, List.pairwise_iff_getElem] at hnd
    exact hnd i j hi hj hij e
  rcases h1 with h1 | ⟨h1, h1'⟩
  · exact .inl h1
  · exact .inr ⟨h1, Nat.lt_of_le_of_ne h1' h2⟩
theorem stabS_rel (P : List (List Sp)) : StabRel P (stabS P) := by
  obtain ⟨Q, h⟩ := stab_ex P
  rw [stabS_eq h]; exact h
theorem splitF_blocks {r : List Sp} {fam : List (List Sp)} : ∀ {fam0 out P : List (List Sp)}, Blocks r fam0 out → splitF out fam = some P → Blocks r (fam0 ++ fam) P := by
  induction fam with
  | nil => intro fam0 out P h e; simp only [splitF] at e; injection e with e; subst e; rw [List.append_nil]; exact h
  | cons s fam ih =>
    intro fam0 out P h e
    simp only [splitF] at e
    split at e
    · cases e
    · have := ih (h.next (stabS_rel _)) e
      rwa [List.append_assoc] at this
theorem splitL_blocks {r : List Sp} {fam P : List (List Sp)} (h : splitL r fam = some P) : Blocks r fam P := by
  unfold splitL at h
  split at h
  · rename_i hr
    injection h with h
    subst h; subst hr
    exact ⟨fun x => by rw [hasB_nil]; rfl, fun b hb => by cases hb⟩
  · exact splitF_blocks Blocks.start h
def tgL (P : List (List Sp)) (x y : Int) : Bool := P.foldl (fun t b => if hasB b x then hasB b y else t) false
theorem tgL_snoc (P : List (List Sp)) (b : List Sp) (x y : Int) : tgL (P ++ [b]) x y = if hasB b x then hasB b y else tgL P x y := by simp [tgL]
theorem tgL_some {P : List (List Sp)} {x y : Int} (h : cntX P x ≠ 0) : ∃ b ∈ P, hasB b x = true ∧ tgL P x y = hasB b y := by
  obtain ⟨n, hn⟩ : ∃ n, P.length = n := ⟨_, rfl⟩
  induction n generalizing P with
  | zero => rw [List.eq_nil_of_length_eq_zero hn] at h; exact absurd rfl h
  | succ n ih =>
    rcases List.eq_nil_or_concat P with rfl | ⟨Q, b, rfl⟩
    · simp at hn
    · rw [List.concat_eq_append] at *
      rw [tgL_snoc]
      by_cases hb : hasB b x = true
      · exact ⟨b, by simp, hb, by rw [if_pos hb]⟩
      · rw [cntX_append, cntX_one, if_neg hb, Nat.add_zero] at h
        obtain ⟨c, hc, h1, h2⟩ := ih h (by simp at hn; omega)
        exact ⟨c, by simp [hc], h1, by rw [if_neg hb]; exact h2⟩
theorem tells {r : List Sp} {fam P : List (List Sp)} (h : Blocks r fam P) (x y : Int) : cntX P x ≤ 1 ∧ cntX P y ≤ 1 ∧ (cntX P x = 1 ↔ hasB r x = true) ∧ (cntX P x ≠ 0 → cntX P y ≠ 0 → tgL P x y = alikeB fam x y) := by
  have h1 := h.one x
  have h2 := h.one y
  refine ⟨by rw [h1]; split <;> omega, by rw [h2]; split <;> omega, by rw [h1]; split <;> simp_all, fun hx hy => ?_⟩
  obtain ⟨b, hb, g1, g2⟩ := tgL_some (y := y) hx
  rw [g2, Bool.eq_iff_iff, h.same b hb x y g1]
  have : hasB r y = true := by
    rw [h2] at hy
    by_cases e : hasB r y = true
    · exact e
    · rw [if_neg e] at hy; exact absurd rfl hy
  simp [this]
end Go.Proofs.YtlmkokeapbleoaaGreat
end
section
namespace Go.Proofs.YtlmkokeapbleoaaGreat
open Go.RowKit
def Some1 (b : List Sp) : Prop := ∃ x, hasB b x = true
theorem plain_some {b : List Sp} (h : Plain b) (hn : b ≠ []) : Some1 b := by
  cases b with
  | nil => exact absurd rfl hn
  | cons p l => exact ⟨p.1, by rw [hasB_iff, h.mem]; exact .inl ⟨by omega, h.2.1⟩⟩
theorem addL_some {P : List (List Sp)} {x : List Sp} (hP : ∀ b ∈ P, Some1 b) (hx : Plain x) : ∀ b ∈ addL P x, Some1 b := by
  unfold addL
  split
  · exact hP
  · rename_i hn
    intro b hb
    rcases List.mem_append.1 hb with hb | hb
    · exact hP b hb
    · rw [List.mem_singleton] at hb; subst hb; exact plain_some hx hn
theorem parts_some {s : List Sp} {L P : List (List Sp)} (hP : ∀ b ∈ P, Some1 b) : ∀ b ∈ parts s P L, Some1 b := by
  induction L generalizing P with
  | nil => exact hP
  | cons c L ih => exact ih (addL_some (addL_some hP (meetL_rep c s).out.1) (minusL_rep c s).out.1)
theorem splitF_some {fam : List (List Sp)} : ∀ {out P : List (List Sp)}, (∀ b ∈ out, Some1 b) → splitF out fam = some P → ∀ b ∈ P, Some1 b := by
  induction fam with
  | nil => intro out P h e; simp only [splitF] at e; injection e with e; subst e; exact h
  | cons s fam ih =>
    intro out P h e
    simp only [splitF] at e
    split at e
    · cases e
    · exact ih (fun b hb => parts_some (P := []) (fun _ h => (by cases h)) b ((stabS_rel _).mem b |>.1 hb)) e
def sumX (P : List (List Sp)) : Nat → Nat
  | 0 => 0
  | n + 1 => sumX P n + cntX P (n : Int)
theorem sumX_cons (b : List Sp) (P : List (List Sp)) (n : Nat) : sumX (b :: P) n = sumX [b] n + sumX P n := by
  induction n with
  | zero => rfl
  | succ n ih =>
    have h := cntX_append [b] P (n : Int)
    simp only [sumX]
    rw [ih, show b :: P = [b] ++ P from rfl, h]; omega
theorem sumX_pos {b : List Sp} {k : Nat} (h : hasB b (k : Int) = true) : ∀ n, k < n → 1 ≤ sumX [b] n := by
  intro n
  induction n with
  | zero => intro hk; omega
  | succ n ih =>
    intro hk
    simp only [sumX]
    rcases Nat.lt_or_ge k n with h2 | h2
    · have := ih h2; omega
    · obtain rfl : k = n := by omega
      rw [cntX_one, if_pos h]; omega
theorem len_sumX {n : Nat} {P : List (List Sp)} (h : ∀ b ∈ P, ∃ k : Nat, k < n ∧ hasB b (k : Int) = true) : P.length ≤ sumX P n := by
  induction P with
  | nil => exact Nat.zero_le _
  | cons b P ih =>
    rw [sumX_cons, List.length_cons]
    obtain ⟨k, hk, hb⟩ := h b List.mem_cons_self
    have h1 := sumX_pos hb n hk
    have h2 := ih fun c hc => h c (List.mem_cons_of_mem _ hc)
    omega
theorem sumX_le {P : List (List Sp)} (h : ∀ x, cntX P x ≤ 1) : ∀ n, sumX P n ≤ n
  | 0 => Nat.le_refl _
  | n + 1 => by have h1 := sumX_le h n; have h2 := h (n : Int); simp only [sumX]; omega
theorem hasB_bytes (x : Int) : hasB [(0, 255)] x = true ↔ 0 ≤ x ∧ x ≤ 255 := by
  rw [hasB_iff]
  simp only [Mem, InS, or_false]
  omega
theorem bytes_count {fam P : List (List Sp)} (h : splitL [(0, 255)] fam = some P) : P.length ≤ 256 ∧ ∀ i : Nat, i < 256 → 0 ≤ classI P i := by
  have hB := splitL_blocks h
  have hs : ∀ b ∈ P, Some1 b := by
    unfold splitL at h
    rw [if_neg (by simp)] at h
    exact splitF_some (fun b hb => by rw [List.mem_singleton] at hb; subst hb; exact ⟨0, (hasB_bytes 0).2 (by omega)⟩) h
  have hin : ∀ b ∈ P, ∃ k : Nat, k < 256 ∧ hasB b (k : Int) = true := fun b hb => by
    obtain ⟨x, hx⟩ := hs b hb
    have h2 := (hasB_bytes x).1 (hB.inr hb hx)
    exact ⟨x.toNat, by omega, by rw [Int.toNat_of_nonneg h2.1]; exact hx⟩
  refine ⟨Nat.le_trans (len_sumX hin) (sumX_le (fun x => by rw [hB.one x]; split <;> omega) 256), fun i hi => ?_⟩
  have h1 := hB.one (i : Int)
  rw [if_pos ((hasB_bytes _).2 (by omega))] at h1
  have ha : P.any (fun l => hasB l (i : Int)) = true := by
    rw [List.any_eq_true]
    have h2 : 0 < P.countP (fun l => hasB l (i : Int)) := by unfold cntX at h1; omega
    exact List.countP_pos_iff.1 h2
  unfold classI
  rw [if_pos ha]
  exact Int.natCast_nonneg _
end Go.Proofs.YtlmkokeapbleoaaGreat
end
section
namespace Go.Proofs.YtlmkokeapbleoaaGreat
open Go.RowKit
theorem infoNodeM : (Tryz.prog.info? 64).map (fun i => (i.zero, i.size, i.bytes)) = some (some (.agg #[.int .i64 0, .slice none 0 0, .int .i64 0]), 3, 40) := by kernel_rfl
def withN (V : MkV) (a : Option Addr) (c : Nat) (ns : List NodeI) : MkV := { V with na := a, nc := c, ns := ns }
theorem Mk.afterNl {B : MkB} {V : MkV} {W W3 : World} (h : Mk B V W) {a : Option Addr} {c : Nat} {x : NodeI} (hs : W.heap.size ≤ W3.heap.size)
    (hk : ∀ k, k < W.heap.size → k ≠ B.mb → ownA V.na ≠ some k → W3.heap[k]? = W.heap[k]?)
    (hbox : W3.heap[B.mb]? = some (.cells (mkCells B (withN V a c (V.ns ++ [x]))).toArray 143 (0, 0)))
    (hnl : W3.ownsRow B.n 64 3 (.slice a (V.ns ++ [x]).length c) (V.ns ++ [x]).length ((V.ns ++ [x]).flatMap nodeC))
    (hnew : ∀ g, ownA a = some g → ownA V.na = some g ∨ W.heap.size ≤ g)
    (hx : Dep (fun k => ¬ Mut B (withN V a c (V.ns ++ [x])) k ∧ ¬ B.av k) W3 (fun W => NodeW x W ∧ Unf x.na (x.nx.length * 1) W)) :
    Mk B (withN V a c (V.ns ++ [x])) W3 ∧ ∀ k, k < W.heap.size → Mut B (withN V a c (V.ns ++ [x])) k → Mut B V k := by
  have hsub : ∀ k, k < W.heap.size → Mut B (withN V a c (V.ns ++ [x])) k → Mut B V k := fun k hl hm => by
    rcases hm with e | e | e | e | e | e | e | e
    · exact .inl e
    · exact .inr (.inl e)
    · exact .inr (.inr (.inl e))
    · exact .inr (.inr (.inr (.inl e)))
    · exact .inr (.inr (.inr (.inr (.inl e))))
    · exact .inr (.inr (.inr (.inr (.inr (.inl e)))))
    · exact .inr (.inr (.inr (.inr (.inr (.inr (.inl e))))))
    · rcases hnew k e with e | e
      · exact .inr (.inr (.inr (.inr (.inr (.inr (.inr e))))))
      · omega
  have hmap : ∀ {b : Nat} {kt : TypeId} {M : List (Value × Value)}, MapIs Tryz.prog kt b M W → MapIs Tryz.prog kt b M W3 := fun k => k.same (hk _ k.lt (fun e => cells_ne_map h.box k e.symm) (own_ne_map h.nl k))
  refine ⟨⟨hbox, h.cl, h.lo, h.dis, ?_, hmap h.num, h.pok, ?_, hmap h.am, ?_, hmap h.em, hnl, ?_, fun k hk => Nat.lt_of_lt_of_le (h.avl k hk) hs⟩, hsub⟩
  · exact own_keep h.pl fun k hA => hk k (own_ty h.pl hA).2.1 (fun e => own_ne_cells h.pl h.box tyPM (e ▸ hA)) (fun e => own_apart h.pl h.nl tyPN k hA e)
  · exact own_keep h.al fun k hA => hk k (own_ty h.al hA).2.1 (fun e => own_ne_cells h.al h.box tyAM (e ▸ hA)) (fun e => own_apart h.al h.nl tyAN k hA e)
  · exact own_keep h.el fun k hA => hk k (own_ty h.el hA).2.1 (fun e => own_ne_cells h.el h.box tyTM (e ▸ hA)) (fun e => own_apart h.el h.nl tyTN k hA e)
  · have h2 := h.imm.step (w' := W3) (P' := fun k => ¬ Mut B (withN V a c (V.ns ++ [x])) k ∧ ¬ B.av k) (fun k hn hl => hk k hl (fun e => hn.1 (.inl e)) (fun e => hn.1 (.inr (.inr (.inr (.inr (.inr (.inr (.inr e))))))))) hs (fun k hn hl => ⟨fun hm => hn.1 (hsub k hl hm), hn.2⟩)
    exact fun U hU => let q := h2 U hU; ⟨q.ls, q.rows, q.fins, q.acs, q.es, fun y hy => by
      rcases List.mem_append.1 hy with hy | hy
      · exact q.ns y hy
      · rw [List.mem_singleton] at hy; subst hy; exact hx U hU⟩
theorem Mk.counts {B : MkB} {V : MkV} {S : LayS} {W : World} (h : Mk B V W) (hS : Lays B V S) : V.acs.length ≤ B.d.rs.length ∧ V.es.length ≤ B.d.fs.length := by
  constructor
  · have h1 : (V.acs.map (·.1)).Nodup := by
      obtain ⟨_, _, _, _, h3, _⟩ := h.am
      rw [idxM_fst] at h3
      exact nodup_of_map _ h3
    have h2 := Kahn.few (n := B.d.rs.length) h1 fun t ht => by
      obtain ⟨x, hx, rfl⟩ := List.mem_map.1 ht
      obtain ⟨r, hr, _⟩ := hS.aok x hx
      exact (List.getElem?_eq_some_iff.1 hr).1
    rwa [List.length_map] at h2
  · have h1 : (V.es.map (·.1)).Nodup := by
      obtain ⟨_, _, _, _, h3, _⟩ := h.em
      rw [idxM_fst] at h3
      exact nodup_of_map _ h3
    have h2 := Kahn.few (n := B.d.fs.length) h1 fun t ht => by
      obtain ⟨x, hx, rfl⟩ := List.mem_map.1 ht
      obtain ⟨r, hr, _⟩ := hS.eok x hx
      exact (List.getElem?_eq_some_iff.1 hr).1
    rwa [List.length_map] at h2
end Go.Proofs.YtlmkokeapbleoaaGreat
end
