/- Contracts and plain laws that the proof leans on. Condition: as each theorem says. -/
import Derived.Test.YtlmkokeapbleoaaGreatP06
import Derived.Test.YtlmkokeapbleoaaGreatP09
import Derived.Test.YtlmkokeapbleoaaGreatP07
import Derived.Test.YtlmkokeapbleoaaGreatP21
import Derived.Test.YtlmkokeapbleoaaGreatP01
import Derived.Deep.Slices
import Derived.OpenShut
import Derived.ChangeArms
import Derived.ChangeSame
set_option maxRecDepth 100000
set_option maxHeartbeats 64000000
set_option linter.unusedVariables false
set_option linter.unusedSimpArgs false
namespace Go.Proofs.YtlmkokeapbleoaaGreat
open Go.RowKit
section
structure OpI where
 a : Option Addr
 c : Nat
 b : List Int
 cl : Bool
def opC (o : OpI) : List Value := [.slice o.a o.b.length o.c, .bool o.cl]
def OpW (o : OpI) (W : World) : Prop := BytesAt o.a o.b W
def OpsAt (A : Option Addr) (l : List OpI) (W : World) : Prop := RowsAt 2 opC OpW A l W
theorem OpW.stays : Stays OpW := fun i w w' h hb => BytesAt.below h hb
theorem OpsAt.below {A : Option Addr} {l : List OpI} {w w' : World} (h : OpsAt A l w) (hb : Below w.heap.size w w') : OpsAt A l w' := RowsAt.below h OpW.stays hb
theorem OpsAt.at_ {A : Option Addr} {l : List OpI} {W : World} (h : OpsAt A l W) {j : Nat} (hj : j < l.length) : ∃ b off o, A = some ⟨b, off, none⟩ ∧ l[j]? = some o ∧ OpW o W ∧ W.cell? ⟨b, off + j * 2, none⟩ = some (.slice o.a o.b.length o.c) ∧ W.cell? ⟨b, off + j * 2 + 1, none⟩ = some (.bool o.cl) := by
 obtain ⟨b, off, p, hA, hp, hc, hw⟩ := RowsAt.at_ h (fun _ => rfl) hj
 exact ⟨b, off, p, hA, hp, hw, hc 0 _ rfl, hc 1 _ rfl⟩
def sumO (l : List OpI) : Nat := (l.map fun o => min o.b.length 2000).sum
def GreatO (T : TabL) (l : List OpI) : Prop := ¬ SmallT T ∨ 60 < l.length ∨ 600 < sumO l
section
variable {w0 w : World} {F : World → Prop}
theorem great19_st (hK : Hid (St w0 w F)) (cs : Array Value) (T : TabI) (hC : TabC cs T) (ht : ∀ W, F W → TabW T W) {A : Option Addr} {l : List OpI} (hl : ∀ W, F W → OpsAt A l W) (c : Nat) (v : Bool) (hv : Hid (pB (GreatO T.L l) = v)) :
  Calls Tryz.prog 37 #[.agg cs, .slice A l.length c] w (RetV w0 (.bool v) F) := by
 have HT := Lh ht
 have HLS := Lh hl
 have HC := Lh hC
 have HK := St.tbox hK cs
 have HI : Hid ((Tryz.prog.info? 49).map (·.size) = some cs.size) := Lh (by rw [hC.size]; exact info_tabS)
 have hln := (HLS.out _ HK.out.now.2).ln
 obtain ⟨wa, hwa⟩ : ∃ z, w.alloc (.cells cs 49) = z := ⟨_, rfl⟩
 rw [hwa] at HK
 clear ht hl hC
 go_enter Tryz.func37, Tryz.ntmps37
 go_wp2_with fail
 (try rw [hwa])
 clear hwa
 go_loop [5, 6] (fun n i => ∃ (k m : Nat), k ≤ l.length ∧ k ≤ 61 ∧ i = .int .i64 k ∧ n = .int .i64 (m : Int) ∧ m ≤ 2000 * k ∧ Hid (m = sumO (l.take k))) (fun _ i => 62 - (intOf i).toNat)
 case atStart => exact ⟨0, 0, Nat.zero_le _, by omega, rfl, rfl, by omega, Lh (by simp [sumO])⟩
 case round =>
 obtain ⟨k, m, hk, hk61, rfl, rfl, hm, HM⟩ := hrel
 by_cases hgo : k < l.length ∧ k ≤ 60
 ·obtain ⟨hlt, h60⟩ := hgo
  obtain ⟨b, off, o, rfl, hx, hw, p0, p1⟩ := (HLS.out _ HK.out.now.2).at_ hlt
  obtain ⟨q, hq⟩ : ∃ q : Nat, min o.b.length 2000 = q := ⟨_, rfl⟩
  have hqi : min (o.b.length : Int) 2000 = (q : Int) := by omega
  have hq2 : q ≤ 2000 := by omega
  have hol := hw.ln
  have HM2 : Hid (m + q = sumO (l.take (k + 1))) := Lh (by
   unfold sumO
   rw [sum_take (fun o : OpI => min o.b.length 2000) hx, hq, HM.out]; rfl)
  have h60i : (k : Int) ≤ 60 := by omega
  have hlti : (k : Int) < (l.length : Int) := by omega
  clear hx hw hq
  go_wp2_with fail
  go_round
  case rel => exact ⟨k + 1, m + q, by omega, by omega, by go_num, by go_num, by omega, HM2⟩
  case measure => simp [intOf]; omega
 obtain ⟨s, hs⟩ : ∃ s, pB (SmallT T.L) = s := ⟨_, rfl⟩
 have HSS := Lh hs
 have HV : Hid (v = if s = false then true else if 60 < l.length then true else decide (600 < m)) := Lh (by
  rw [← hv.out]
  rcases s with _ | _
  ·rw [if_pos rfl]
   exact pB_true (.inl fun h => by rw [pB_true h] at hs; cases hs)
  ·rw [if_neg (by simp)]
   by_cases h6 : 60 < l.length
   ·rw [if_pos h6]; exact pB_true (.inr (.inl h6))
   ·rw [if_neg h6]
    have hkl : k = l.length := by omega
    have hmm : m = sumO l := by rw [HM.out, hkl, List.take_length]
    by_cases h7 : 600 < m
    ·rw [decide_eq_true h7]; exact pB_true (.inr (.inr (by omega)))
    ·rw [decide_eq_false h7]
     exact pB_false fun h => by
      rcases h with h | h | h
      ·exact h (pB_iff.1 hs)
      ·exact h6 h
      ·omega)
 have HGO : Hid (¬ (k < l.length ∧ k ≤ 60)) := Lh hgo
 clear hs hgo HM
 by_cases h1 : k < l.length
 ·have h2 : ¬ k ≤ 60 := fun h2 => HGO.out ⟨h1, h2⟩
  obtain rfl : k = 61 := by omega
  have h1i : ((61 : Nat) : Int) < (l.length : Int) := by omega
  have h6 : (60 : Int) < (l.length : Int) := by omega
  obtain rfl : v = true := (by rw [HV.out, if_pos (show 60 < l.length by omega)]; simp)
  clear h2
  go_wp2_with (first
   | (refine wpList_load_row rfl 49 _ rfl w.heap.size rfl _ cs _ _ HK.out.now.1 Tryz.underlying49 rfl HI.out ?_)
   | (go_at_call 32; refine (Small_st HK cs T HC.out (fun _ h => HT.out _ h.2) s HSS).mono ?_; rintro e w2 ⟨rfl, HK2⟩))
  all_goals
   go_ret
   exact ⟨rfl, Lh (HK2.out.weaken fun _ h => h.2)⟩
 obtain rfl : k = l.length := by omega
 have hd : decide (l.length < l.length) = false := by simp
 rcases s with _ | _
 ·obtain rfl : v = true := (by rw [HV.out]; rfl)
  go_wp2_with (first
   | (refine wpList_load_row rfl 49 _ rfl w.heap.size rfl _ cs _ _ HK.out.now.1 Tryz.underlying49 rfl HI.out ?_)
   | (go_at_call 32; refine (Small_st HK cs T HC.out (fun _ h => HT.out _ h.2) false HSS).mono ?_; rintro e w2 ⟨rfl, HK2⟩))
  go_ret
  exact ⟨rfl, Lh (HK2.out.weaken fun _ h => h.2)⟩
 by_cases h6 : 60 < l.length
 ·obtain rfl : v = true := (by rw [HV.out, if_neg (by simp), if_pos h6])
  have h6i : (60 : Int) < (l.length : Int) := by omega
  go_wp2_with (first
   | (refine wpList_load_row rfl 49 _ rfl w.heap.size rfl _ cs _ _ HK.out.now.1 Tryz.underlying49 rfl HI.out ?_)
   | (go_at_call 32; refine (Small_st HK cs T HC.out (fun _ h => HT.out _ h.2) true HSS).mono ?_; rintro e w2 ⟨rfl, HK2⟩))
  go_ret
  exact ⟨rfl, Lh (HK2.out.weaken fun _ h => h.2)⟩
 have hg6 : decide ((60 : Int) < (l.length : Int)) = false := by simp; omega
 have h6i : ¬ (60 : Int) < (l.length : Int) := by omega
 by_cases h7 : 600 < m
 ·obtain rfl : v = true := (by rw [HV.out, if_neg (by simp), if_neg h6, decide_eq_true h7])
  have h7i : (600 : Int) < (m : Int) := by omega
  go_wp2_with (first
   | (refine wpList_load_row rfl 49 _ rfl w.heap.size rfl _ cs _ _ HK.out.now.1 Tryz.underlying49 rfl HI.out ?_)
   | (go_at_call 32; refine (Small_st HK cs T HC.out (fun _ h => HT.out _ h.2) true HSS).mono ?_; rintro e w2 ⟨rfl, HK2⟩))
  go_ret
  exact ⟨rfl, Lh (HK2.out.weaken fun _ h => h.2)⟩
 ·obtain rfl : v = false := (by rw [HV.out, if_neg (by simp), if_neg h6, decide_eq_false h7])
  have hg7 : decide ((600 : Int) < (m : Int)) = false := by simp; omega
  have h7i : ¬ (600 : Int) < (m : Int) := by omega
  go_wp2_with (first
   | (refine wpList_load_row rfl 49 _ rfl w.heap.size rfl _ cs _ _ HK.out.now.1 Tryz.underlying49 rfl HI.out ?_)
   | (go_at_call 32; refine (Small_st HK cs T HC.out (fun _ h => HT.out _ h.2) true HSS).mono ?_; rintro e w2 ⟨rfl, HK2⟩))
  go_ret
  exact ⟨rfl, Lh (HK2.out.weaken fun _ h => h.2)⟩
end
end
section
open Go.Shelf
theorem ops_small {T : TabL} {l : List OpI} (h : ¬ GreatO T l) : SmallT T ∧ l.length ≤ 60 ∧ ∀ o ∈ l, o.b.length ≤ 600 := by
 have h1 : SmallT T := Classical.not_not.1 fun q => h (.inl q)
 have h2 : l.length ≤ 60 := Nat.le_of_not_lt fun q => h (.inr (.inl q))
 have h3 : sumO l ≤ 600 := Nat.le_of_not_lt fun q => h (.inr (.inr q))
 refine ⟨h1, h2, fun o ho => ?_⟩
 have h4 : min o.b.length 2000 ≤ sumO l := by
  clear h1 h2 h3 h
  unfold sumO
  induction l with
  | nil => cases ho
  | cons x l ih =>
   rw [List.map_cons, List.sum_cons]
   rcases List.mem_cons.1 ho with rfl | h
   ·omega
   ·have := ih h; omega
 omega
end
section
open Go.RowKit Go.ChangeShapes Go.WideShapes Go.Deep
section
variable {H : Type} {enc : TypeId × Value → H} {W : World} {base : Nat} {spare : Nat → Bool} {held : Bool}
def OpensAs (enc : TypeId × Value → H) (W : World) (base : Nat) (spare : Nat → Bool) (held : Bool) (t : TypeId) {α : Type} (f : α → List Value) (R : α → World → Prop) : Prop :=
 ∀ (fuel : Nat) (cs : List Value) (x : DataW H × List MemPlace), DataW.trod enc Tryz.prog W base spare held fuel t cs = some x → ∃ a, cs = f a ∧ R a W
theorem opens_int : OpensAs enc W base spare held 3 (fun z => [Value.int .i64 z]) (fun z _ => I64 z) := fun fuel cs x h => by
 obtain ⟨z, e, _, w⟩ := DataW.trod_int Tryz.underlying3 h
 exact ⟨z, e, I64.of_wf w⟩
theorem add_none (b off k : Nat) : (⟨b, off, none⟩ : Addr).add k = ⟨b, off + k, none⟩ := by unfold Addr.add; split <;> simp_all
theorem opens_slice {t e : TypeId} {α : Type} {size : Nat} {f : α → List Value} {R : α → World → Prop} (ht : Tryz.prog.underlying t = some (.slice e)) (hce : Tryz.prog.cellsOf e = size) (hs : 0 < size) (hf : ∀ a, (f a).length = size)
  (he : OpensAs enc W base spare held e f R) {fuel : Nat} {cs : List Value} {x : DataW H × List MemPlace} (h : DataW.trod enc Tryz.prog W base spare held fuel t cs = some x) :
  ∃ A L c, cs = [Value.slice A L.length c] ∧ RowsAt size f R A L W ∧ L.length ≤ c ∧ c ≤ 9223372036854775807 := by
 rcases open_slice ht h with ⟨hcs, _⟩ | ⟨b, len, cap, m, n, D, Pl, hcs, _, hl, hm, hmm, _, hc⟩
 ·exact ⟨none, [], 0, hcs, RowsAt.nil_ _ _ _ _ _, Nat.le_refl _, by omega⟩
 ·have hlm : len ≤ m := by rw [hmm]; split <;> omega
  unfold maxLen at hm
  rcases Nat.eq_zero_or_pos len with h0 | hpos
  ·subst h0
   exact ⟨some b, [], cap, hcs, RowsAt.nil_ _ _ _ _ _, Nat.zero_le _, hm⟩
  have each : ∀ i, ∃ a : α, i < len → ((∀ j u, (f a)[j]? = some u → W.cell? (b.add (i * size + j)) = some u) ∧ R a W) := by
   intro i
   obtain ⟨cs0, h10, h20⟩ := hc 0 (by omega)
   obtain ⟨a0, e0, r0⟩ := he _ _ _ h20
   by_cases hi : i < len
   ·obtain ⟨cs', h1, h2⟩ := hc i (by omega)
    rw [hce] at h1
    obtain ⟨_, hlen, hat⟩ := World.cells?_some h1
    obtain ⟨a, rfl, r⟩ := he _ _ _ h2
    refine ⟨a, fun _ => ⟨fun j u hu => ?_, r⟩⟩
    have hj : j < size := by have := (List.getElem?_eq_some_iff.1 hu).1; rwa [hf] at this
    have := hat j (by omega)
    rw [Go.Deep.add_add] at this
    rw [this, hu]
   ·exact ⟨a0, fun g => absurd g hi⟩
  obtain ⟨q, hq⟩ := Classical.skolem.1 each
  have hL : ((List.range len).map q).length = len := by simp
  refine ⟨some b, (List.range len).map q, cap, by rw [hL]; exact hcs, ⟨⟨?_, fun _ => ?_⟩, fun a ha => ?_, by rw [hL]; omega⟩, by rw [hL]; exact hl, hm⟩
  ·rw [hL]
   have : ∀ l : List α, (l.flatMap f).length = l.length * size := by
    intro l; induction l with
    | nil => simp
    | cons y l ih => rw [List.flatMap_cons, List.length_append, ih, hf, List.length_cons, Nat.succ_mul]; omega
   rw [this, hL]
  ·obtain ⟨bb, off, spot⟩ := b
   have hu0 : ∃ u, (f (q 0))[0]? = some u := ⟨(f (q 0))[0]'(by rw [hf]; exact hs), by simp [hf, hs]⟩
   obtain ⟨u0, hu0⟩ := hu0
   have h0 := (hq 0 hpos).1 0 u0 hu0
   have hs0 : spot = none := by simpa [Addr.add] using World.cell?_spot h0
   subst hs0
   refine ⟨bb, off, rfl, fun j u hu => ?_⟩
   have hjl : j < len * size := by
    have := (List.getElem?_eq_some_iff.1 hu).1
    have h2 : ∀ l : List α, (l.flatMap f).length = l.length * size := by
     intro l; induction l with
     | nil => simp
     | cons y l ih => rw [List.flatMap_cons, List.length_append, ih, hf, List.length_cons, Nat.succ_mul]; omega
    rw [h2, hL] at this; exact this
   have hdm := Nat.div_add_mod j size
   have hdl : j / size < len := (Nat.div_lt_iff_lt_mul hs).2 hjl
   have hmod := Nat.mod_lt j hs
   have hx : ((List.range len).map q)[j / size]? = some (q (j / size)) := by simp [hdl]
   obtain ⟨u', hu'⟩ : ∃ u', (f (q (j / size)))[j % size]? = some u' := ⟨(f (q (j / size)))[j % size]'(by rw [hf]; exact hmod), by simp [hf, hmod]⟩
   have h3 := flatMap_at hf hx hu'
   rw [Nat.mul_comm, hdm] at h3
   obtain rfl : u' = u := Option.some.inj (h3.symm.trans hu)
   have := (hq _ hdl).1 _ _ hu'
   rw [Nat.mul_comm, hdm, add_none] at this
   exact this
  ·obtain ⟨r, hr, rfl⟩ := List.mem_map.1 ha
   exact (hq r (List.mem_range.1 hr)).2
end
end
section
open Go.RowKit Go.ChangeShapes Go.WideShapes Go.Deep
set_option maxRecDepth 100000
theorem list3 {α : Type} {l : List α} (h : l.length = 3) : ∃ a b c, l = [a, b, c] := by
 match l, h with
 | [a, b, c], _ => exact ⟨a, b, c, rfl⟩
theorem list4 {α : Type} {l : List α} (h : l.length = 4) : ∃ a b c d, l = [a, b, c, d] := by
 match l, h with
 | [a, b, c, d], _ => exact ⟨a, b, c, d, rfl⟩
theorem list6 {α : Type} {l : List α} (h : l.length = 6) : ∃ a b c d e f, l = [a, b, c, d, e, f] := by
 match l, h with
 | [a, b, c, d, e, f], _ => exact ⟨a, b, c, d, e, f, rfl⟩
section
variable {H : Type} {enc : TypeId × Value → H} {W : World} {base : Nat} {spare : Nat → Bool} {held : Bool}
theorem opens_part : OpensAs enc W base spare held 70 partC (fun p _ => PartW p) := fun fuel cs x h => by
 obtain ⟨xs, n, _, rfl, hl, hlen, hf⟩ := DataW.trod_struct Tryz.underlying70 h
 rw [show Tryz.prog.cellsOf 70 = 4 from by kernel_rfl] at hl
 obtain ⟨c0, c1, c2, c3, rfl⟩ := list4 hl
 obtain ⟨x0, x1, x2, x3, rfl⟩ := list4 hlen
 have h0 : DataW.trod enc Tryz.prog W base spare held n 3 [c0] = some x0 := by have := hf 0 _ rfl; simpa [show Tryz.prog.cellsOf 3 = 1 from by kernel_rfl] using this
 have h1 : DataW.trod enc Tryz.prog W base spare held n 3 [c1] = some x1 := by have := hf 1 _ rfl; simpa [show Tryz.prog.cellsOf 3 = 1 from by kernel_rfl] using this
 have h2 : DataW.trod enc Tryz.prog W base spare held n 3 [c2] = some x2 := by have := hf 2 _ rfl; simpa [show Tryz.prog.cellsOf 3 = 1 from by kernel_rfl] using this
 have h3 : DataW.trod enc Tryz.prog W base spare held n 3 [c3] = some x3 := by have := hf 3 _ rfl; simpa [show Tryz.prog.cellsOf 3 = 1 from by kernel_rfl] using this
 obtain ⟨z0, e0, w0⟩ := opens_int _ _ _ h0
 obtain ⟨z1, e1, w1⟩ := opens_int _ _ _ h1
 obtain ⟨z2, e2, w2⟩ := opens_int _ _ _ h2
 obtain ⟨z3, e3, w3⟩ := opens_int _ _ _ h3
 simp only [List.cons.injEq, and_true] at e0 e1 e2 e3
 exact ⟨(z0, z1, z2, z3), by rw [e0, e1, e2, e3]; rfl, ⟨w0, w1, w2, w3⟩⟩
theorem open_parts {fuel : Nat} {cs : List Value} {x : DataW H × List MemPlace} (h : DataW.trod enc Tryz.prog W base spare held fuel 66 cs = some x) :
  ∃ A L c, cs = [Value.slice A L.length c] ∧ PartsAt A L W ∧ L.length ≤ c ∧ c ≤ 9223372036854775807 := opens_slice (size := 4) Tryz.underlying66 (by kernel_rfl) (by decide) (fun _ => rfl) opens_part h
theorem opens_term : OpensAs enc W base spare held 68 termC TermW := fun fuel cs x h => by
 obtain ⟨xs, n, _, rfl, hl, hlen, hf⟩ := DataW.trod_struct Tryz.underlying68 h
 rw [show Tryz.prog.cellsOf 68 = 6 from by kernel_rfl] at hl
 obtain ⟨c0, c1, c2, c3, c4, c5, rfl⟩ := list6 hl
 obtain ⟨x0, x1, x2, x3, x4, x5, rfl⟩ := list6 hlen
 have h0 : DataW.trod enc Tryz.prog W base spare held n 3 [c0] = some x0 := by have := hf 0 _ rfl; simpa [show Tryz.prog.cellsOf 3 = 1 from by kernel_rfl] using this
 have h1 : DataW.trod enc Tryz.prog W base spare held n 3 [c1] = some x1 := by have := hf 1 _ rfl; simpa [show Tryz.prog.cellsOf 3 = 1 from by kernel_rfl] using this
 have h2 : DataW.trod enc Tryz.prog W base spare held n 3 [c2] = some x2 := by have := hf 2 _ rfl; simpa [show Tryz.prog.cellsOf 3 = 1 from by kernel_rfl] using this
 have h3 : DataW.trod enc Tryz.prog W base spare held n 3 [c3] = some x3 := by have := hf 3 _ rfl; simpa [show Tryz.prog.cellsOf 3 = 1 from by kernel_rfl] using this
 have h4 : DataW.trod enc Tryz.prog W base spare held n 3 [c4] = some x4 := by have := hf 4 _ rfl; simpa [show Tryz.prog.cellsOf 3 = 1 from by kernel_rfl] using this
 have h5 : DataW.trod enc Tryz.prog W base spare held n 66 [c5] = some x5 := by have := hf 5 _ rfl; simpa [show Tryz.prog.cellsOf 66 = 1 from by kernel_rfl] using this
 obtain ⟨z0, e0, w0⟩ := opens_int _ _ _ h0
 obtain ⟨z1, e1, w1⟩ := opens_int _ _ _ h1
 obtain ⟨z2, e2, w2⟩ := opens_int _ _ _ h2
 obtain ⟨z3, e3, w3⟩ := opens_int _ _ _ h3
 obtain ⟨z4, e4, w4⟩ := opens_int _ _ _ h4
 obtain ⟨A5, L5, C5, e5, w5, hc5, _⟩ := open_parts h5
 simp only [List.cons.injEq, and_true] at e0 e1 e2 e3 e4 e5
 exact ⟨⟨z0, z1, z2, z3, z4, A5, C5, L5⟩, by rw [e0, e1, e2, e3, e4, e5]; rfl, ⟨⟨w0, w1, w2, w3, w4⟩, w5⟩⟩
theorem open_terms {fuel : Nat} {cs : List Value} {x : DataW H × List MemPlace} (h : DataW.trod enc Tryz.prog W base spare held fuel 57 cs = some x) :
  ∃ A L c, cs = [Value.slice A L.length c] ∧ TermsAt A L W ∧ L.length ≤ c ∧ c ≤ 9223372036854775807 := opens_slice (size := 6) Tryz.underlying57 (by kernel_rfl) (by decide) (fun _ => rfl) opens_term h
theorem opens_out : OpensAs enc W base spare held 57 (fun o => [OutI.v o]) OutW := fun fuel cs x h => by
 obtain ⟨A, L, c, e, w, _, _⟩ := open_terms h
 exact ⟨⟨A, c, L⟩, e, w⟩
theorem open_outs {fuel : Nat} {cs : List Value} {x : DataW H × List MemPlace} (h : DataW.trod enc Tryz.prog W base spare held fuel 47 cs = some x) :
  ∃ A L c, cs = [Value.slice A L.length c] ∧ EndsAt A L W ∧ L.length ≤ c ∧ c ≤ 9223372036854775807 := opens_slice (size := 1) Tryz.underlying47 (by kernel_rfl) (by decide) (fun _ => rfl) opens_out h
theorem open_intsR {fuel : Nat} {cs : List Value} {x : DataW H × List MemPlace} (h : DataW.trod enc Tryz.prog W base spare held fuel 62 cs = some x) :
  ∃ A L c, cs = [Value.slice A L.length c] ∧ IntsAt A L W ∧ L.length ≤ c ∧ c ≤ 9223372036854775807 := opens_slice (size := 1) Tryz.underlying62 (by kernel_rfl) (by decide) (fun _ => rfl) opens_int h
theorem opens_node : OpensAs enc W base spare held 64 nodeC NodeW := fun fuel cs x h => by
 obtain ⟨xs, n, _, rfl, hl, hlen, hf⟩ := DataW.trod_struct Tryz.underlying64 h
 rw [show Tryz.prog.cellsOf 64 = 3 from by kernel_rfl] at hl
 obtain ⟨c0, c1, c2, rfl⟩ := list3 hl
 obtain ⟨x0, x1, x2, rfl⟩ := list3 hlen
 have h0 : DataW.trod enc Tryz.prog W base spare held n 3 [c0] = some x0 := by have := hf 0 _ rfl; simpa [show Tryz.prog.cellsOf 3 = 1 from by kernel_rfl] using this
 have h1 : DataW.trod enc Tryz.prog W base spare held n 62 [c1] = some x1 := by have := hf 1 _ rfl; simpa [show Tryz.prog.cellsOf 62 = 1 from by kernel_rfl] using this
 have h2 : DataW.trod enc Tryz.prog W base spare held n 3 [c2] = some x2 := by have := hf 2 _ rfl; simpa [show Tryz.prog.cellsOf 3 = 1 from by kernel_rfl] using this
 obtain ⟨z0, e0, w0⟩ := opens_int _ _ _ h0
 obtain ⟨A1, L1, C1, e1, w1, hc1, _⟩ := open_intsR h1
 obtain ⟨z2, e2, w2⟩ := opens_int _ _ _ h2
 simp only [List.cons.injEq, and_true] at e0 e1 e2
 exact ⟨⟨z0, A1, C1, L1, z2⟩, by rw [e0, e1, e2]; rfl, ⟨⟨w0, w2⟩, w1⟩⟩
theorem opens_act : OpensAs enc W base spare held 59 actC ActW := fun fuel cs x h => by
 obtain ⟨xs, n, _, rfl, hl, hlen, hf⟩ := DataW.trod_struct Tryz.underlying59 h
 rw [show Tryz.prog.cellsOf 59 = 3 from by kernel_rfl] at hl
 obtain ⟨c0, c1, c2, rfl⟩ := list3 hl
 obtain ⟨x0, x1, x2, rfl⟩ := list3 hlen
 have h0 : DataW.trod enc Tryz.prog W base spare held n 3 [c0] = some x0 := by have := hf 0 _ rfl; simpa [show Tryz.prog.cellsOf 3 = 1 from by kernel_rfl] using this
 have h1 : DataW.trod enc Tryz.prog W base spare held n 3 [c1] = some x1 := by have := hf 1 _ rfl; simpa [show Tryz.prog.cellsOf 3 = 1 from by kernel_rfl] using this
 have h2 : DataW.trod enc Tryz.prog W base spare held n 57 [c2] = some x2 := by have := hf 2 _ rfl; simpa [show Tryz.prog.cellsOf 57 = 1 from by kernel_rfl] using this
 obtain ⟨z0, e0, w0⟩ := opens_int _ _ _ h0
 obtain ⟨z1, e1, w1⟩ := opens_int _ _ _ h1
 obtain ⟨A2, L2, C2, e2, w2, hc2, _⟩ := open_terms h2
 simp only [List.cons.injEq, and_true] at e0 e1 e2
 exact ⟨⟨z0, z1, ⟨A2, C2, L2⟩⟩, by rw [e0, e1, e2]; rfl, ⟨⟨w0, w1⟩, w2⟩⟩
theorem open_nodes {fuel : Nat} {cs : List Value} {x : DataW H × List MemPlace} (h : DataW.trod enc Tryz.prog W base spare held fuel 45 cs = some x) :
  ∃ A L c, cs = [Value.slice A L.length c] ∧ NodesAt A L W ∧ L.length ≤ c ∧ c ≤ 9223372036854775807 := opens_slice (size := 3) Tryz.underlying45 (by kernel_rfl) (by decide) (fun _ => rfl) opens_node h
theorem open_acts {fuel : Nat} {cs : List Value} {x : DataW H × List MemPlace} (h : DataW.trod enc Tryz.prog W base spare held fuel 46 cs = some x) :
  ∃ A L c, cs = [Value.slice A L.length c] ∧ ActsAt A L W ∧ L.length ≤ c ∧ c ≤ 9223372036854775807 := opens_slice (size := 3) Tryz.underlying46 (by kernel_rfl) (by decide) (fun _ => rfl) opens_act h
theorem open_cls {fuel : Nat} {cs : List Value} {x : DataW H × List MemPlace} (h : DataW.trod enc Tryz.prog W base spare held fuel 44 cs = some x) : ∃ l : List Int, l.length = 256 ∧ U8s l ∧ cs = l.map (Value.int .u8) := by
 obtain ⟨xs, m, _, _, hl, hlen, hf⟩ := DataW.trod_array Tryz.underlying44 h
 rw [show Tryz.prog.cellsOf 44 = 256 from by kernel_rfl] at hl
 rw [show Tryz.prog.cellsOf 5 = 1 from by kernel_rfl] at hf
 have each : ∀ i, ∃ z : Int, i < 256 → (cs[i]? = some (Value.int .u8 z) ∧ 0 ≤ z ∧ z < 256) := by
  intro i
  by_cases hi : i < 256
  ·have h1 := hf i hi
   rw [List.getElem?_eq_getElem (show i < xs.length by omega)] at h1
   obtain ⟨z, e, _, w⟩ := DataW.trod_int Tryz.underlying5 h1
   refine ⟨z, fun _ => ⟨?_, ?_⟩⟩
   ·have := congrArg (fun l => l[0]?) e
    simpa using this
   ·simp [Lit.wf, IntKind.min, IntKind.max, IntKind.signed, IntKind.bits] at w
    omega
  ·exact ⟨0, fun g => absurd g hi⟩
 obtain ⟨q, hq⟩ := Classical.skolem.1 each
 refine ⟨(List.range 256).map q, by simp, fun z hz => ?_, ?_⟩
 ·obtain ⟨i, hi, rfl⟩ := List.mem_map.1 hz
  exact (hq i (List.mem_range.1 hi)).2
 ·refine List.ext_getElem? fun i => ?_
  by_cases hi : i < 256
  ·rw [(hq i hi).1]; simp [List.getElem?_range hi]
  ·rw [List.getElem?_eq_none (by omega), List.getElem?_eq_none (by simp; omega)]
theorem open_table {fuel : Nat} {cs : List Value} {x : DataW H × List MemPlace} (h : DataW.trod enc Tryz.prog W base spare held fuel 49 cs = some x) : ∃ T : TabI, TabC cs.toArray T ∧ TabW T W := by
 obtain ⟨xs, n, _, rfl, hl, hlen, hf⟩ := DataW.trod_struct Tryz.underlying49 h
 rw [show Tryz.prog.cellsOf 49 = 259 from by kernel_rfl] at hl
 obtain ⟨x0, x1, x2, x3, rfl⟩ := list4 hlen
 have h0 : DataW.trod enc Tryz.prog W base spare held n 44 (cs.take 256) = some x0 := by have := hf 0 _ rfl; simpa [show Tryz.prog.cellsOf 44 = 256 from by kernel_rfl] using this
 have h1 : DataW.trod enc Tryz.prog W base spare held n 45 ((cs.drop 256).take 1) = some x1 := by have := hf 1 _ rfl; simpa [show Tryz.prog.cellsOf 45 = 1 from by kernel_rfl] using this
 have h2 : DataW.trod enc Tryz.prog W base spare held n 46 ((cs.drop 257).take 1) = some x2 := by have := hf 2 _ rfl; simpa [show Tryz.prog.cellsOf 46 = 1 from by kernel_rfl] using this
 have h3 : DataW.trod enc Tryz.prog W base spare held n 47 ((cs.drop 258).take 1) = some x3 := by have := hf 3 _ rfl; simpa [show Tryz.prog.cellsOf 47 = 1 from by kernel_rfl] using this
 obtain ⟨l, hl1, hl2, hl3⟩ := open_cls h0
 obtain ⟨A1, L1, C1, e1, w1, _, _⟩ := open_nodes h1
 obtain ⟨A2, L2, C2, e2, w2, _, _⟩ := open_acts h2
 obtain ⟨A3, L3, C3, e3, w3, _, _⟩ := open_outs h3
 have at1 : ∀ (k : Nat) (v : Value), (cs.drop k).take 1 = [v] → cs.toArray[k]? = some v := fun k v e => by
  have := congrArg (fun z => z[0]?) e
  simpa using this
 refine ⟨⟨l, A1, C1, L1, A2, C2, L2, A3, C3, L3⟩, ⟨by simpa using hl, hl1, hl2, fun i z hz => ?_, at1 256 _ e1, at1 257 _ e2, at1 258 _ e3⟩, ⟨w1, w2, w3⟩⟩
 have hi : i < 256 := by have := (List.getElem?_eq_some_iff.1 hz).1; rw [hl1] at this; exact this
 have := congrArg (fun y => y[i]?) hl3
 simp only [List.getElem?_take, hi, if_true, List.getElem?_map, hz, Option.map_some] at this
 simpa using this
end
end
section
open Go.RowKit Go.ChangeShapes Go.WideShapes Go.Deep
section
variable {H : Type} {enc : TypeId × Value → H} {W : World} {base : Nat} {spare : Nat → Bool} {held : Bool}
theorem opens_u8 : OpensAs enc W base spare held 5 (fun z => [Value.int .u8 z]) (fun z _ => 0 ≤ z ∧ z < 256) := fun fuel cs x h => by
 obtain ⟨z, e, _, w⟩ := DataW.trod_int Tryz.underlying5 h
 refine ⟨z, e, ?_⟩
 simp [Lit.wf, IntKind.min, IntKind.max, IntKind.signed, IntKind.bits] at w
 omega
theorem open_bytes {fuel : Nat} {cs : List Value} {x : DataW H × List MemPlace} (h : DataW.trod enc Tryz.prog W base spare held fuel 79 cs = some x) :
  ∃ A L c, cs = [Value.slice A L.length c] ∧ BytesAt A L W ∧ L.length ≤ c ∧ c ≤ 9223372036854775807 := opens_slice (size := 1) Tryz.underlying79 (by kernel_rfl) (by decide) (fun _ => rfl) opens_u8 h
end
end
section
theorem list2 {α : Type} {l : List α} (h : l.length = 2) : ∃ a b, l = [a, b] := by
 rcases l with _ | ⟨a, _ | ⟨b, _ | ⟨c, l⟩⟩⟩
 ·simp at h
 ·simp at h
 ·exact ⟨a, b, rfl⟩
 ·simp at h
section
variable {H : Type} {enc : TypeId × Value → H} {W : World} {base : Nat} {spare : Nat → Bool} {held : Bool}
theorem opens_op : OpensAs enc W base spare held 83 opC OpW := fun fuel cs x h => by
 obtain ⟨xs, n, _, rfl, hl, hlen, hf⟩ := DataW.trod_struct Tryz.underlying83 h
 rw [show Tryz.prog.cellsOf 83 = 2 from by kernel_rfl] at hl
 obtain ⟨c0, c1, rfl⟩ := list2 hl
 obtain ⟨x0, x1, rfl⟩ := list2 hlen
 have h0 : DataW.trod enc Tryz.prog W base spare held n 79 [c0] = some x0 := by have := hf 0 _ rfl; simpa [show Tryz.prog.cellsOf 79 = 1 from by kernel_rfl] using this
 have h1 : DataW.trod enc Tryz.prog W base spare held n 4 [c1] = some x1 := by have := hf 1 _ rfl; simpa [show Tryz.prog.cellsOf 4 = 1 from by kernel_rfl] using this
 obtain ⟨A0, L0, C0, e0, w0, _, _⟩ := open_bytes h0
 obtain ⟨z, e1, _⟩ := DataW.trod_bool Tryz.underlying4 h1
 simp only [List.cons.injEq, and_true] at e0 e1
 exact ⟨⟨A0, C0, L0, z⟩, by rw [e0, e1]; rfl, w0⟩
theorem open_ops {fuel : Nat} {cs : List Value} {x : DataW H × List MemPlace} (h : DataW.trod enc Tryz.prog W base spare held fuel 74 cs = some x) :
  ∃ A L c, cs = [Value.slice A L.length c] ∧ OpsAt A L W ∧ L.length ≤ c ∧ c ≤ 9223372036854775807 := opens_slice (size := 2) Tryz.underlying74 (by kernel_rfl) (by decide) (fun _ => rfl) opens_op h
end
end
end Go.Proofs.YtlmkokeapbleoaaGreat
