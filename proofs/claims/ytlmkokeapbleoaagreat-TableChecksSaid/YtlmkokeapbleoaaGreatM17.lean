/- Contracts of umlautref17.size and Small: is a table not too great. Condition: the table is known. Openers for arguments that are slices of records: from the claim's reading of a slice to 'RowsAt'. Condition: none. Openers for arguments that are tables. Condition: none. Contracts of pack.Sum and umlautref18.Sum: the check of bytes. Condition: the bytes are known. Opener for arguments that are slices of bytes. Condition: none. -/
import Derived.Test.YtlmkokeapbleoaaGreatM16
import Derived.Lib.MinMax
import Derived.Test.YtlmkokeapbleoaaGreatM01
import Derived.Deep.Slices
import Derived.OpenShut
import Derived.ChangeArms
import Derived.ChangeSame
section
namespace Go.Proofs.YtlmkokeapbleoaaGreat
open Go.RowKit
set_option linter.unusedVariables false
set_option linter.unusedSimpArgs false
def one17 (t : TermL) : Nat := 1 + min t.parts.length 90000
def sizeL (l : List TermL) : Nat := if 300 < l.length then 90000 else (l.map one17).sum
def nodeN (n : NodeL) : Nat := min n.next.length 90000
def sumT (T : TabL) : Nat := ((T.nodes.map nodeN).sum + (T.acts.map fun a => sizeL a.out).sum) + (T.ends.map sizeL).sum
def SmallT (T : TabL) : Prop := T.nodes.length ≤ 300 ∧ T.acts.length ≤ 300 ∧ T.ends.length ≤ 300 ∧ sumT T ≤ 80000
theorem sum_take {α : Type} (f : α → Nat) {l : List α} {k : Nat} {x : α} (h : l[k]? = some x) : ((l.take (k + 1)).map f).sum = ((l.take k).map f).sum + f x := by
  rw [take_snoc? h, List.map_append, List.sum_append]; simp
theorem sum_le {α : Type} (f : α → Nat) (m : Nat) (hf : ∀ x, f x ≤ m) (l : List α) : (l.map f).sum ≤ l.length * m := by
  induction l with
  | nil => simp
  | cons x l ih => have := hf x; rw [List.map_cons, List.sum_cons, List.length_cons, Nat.add_mul]; omega
theorem sum_take_le {α : Type} (f : α → Nat) (m n : Nat) (hf : ∀ x, f x ≤ m) (l : List α) (hl : l.length ≤ n) (k : Nat) : ((l.take k).map f).sum ≤ n * m := by
  refine Nat.le_trans (sum_le f m hf _) (Nat.mul_le_mul_right _ ?_)
  rw [List.length_take]; omega
theorem one17_le (t : TermL) : one17 t ≤ 90001 := by unfold one17; omega
theorem nodeN_le (t : NodeL) : nodeN t ≤ 90000 := by unfold nodeN; omega
theorem sizeL_le (l : List TermL) : sizeL l ≤ 27000300 := by
  unfold sizeL
  split
  · omega
  · have := sum_le one17 90001 one17_le l
    have h2 : l.length * 90001 ≤ 300 * 90001 := Nat.mul_le_mul_right _ (by omega)
    omega
section
variable {w0 w : World} {F : World → Prop}
theorem size_st (hK : Hid (St w0 w F)) (o : OutI) (hp : ∀ W, F W → OutW o W) (v : Nat) (hv : Hid (sizeL o.L = v)) :
    Calls Tryz.prog 84 #[.slice o.a o.l.length o.c] w (RetV w0 (.int .i64 (v : Int)) F) := by
  have hln := (hp _ hK.out.now).ln
  have HP := Lib.hid hp
  have HOL : Hid (o.L.length = o.l.length) := Lib.hid (List.length_map _)
  clear hp
  by_cases h3 : 300 < o.l.length
  · obtain rfl : v = 90000 := by rw [← hv.out]; unfold sizeL; rw [if_pos (by rw [HOL.out]; exact h3)]
    have h3' : (300 : Int) < o.l.length := by omega
    go_enter Tryz.func84, Tryz.ntmps84
    go_wp2_with fail
    go_ret
    exact ⟨rfl, hK⟩
  have h3' : ¬ (300 : Int) < o.l.length := by omega
  have HV : Hid ((o.L.map one17).sum = v) := Lib.hid (by rw [← hv.out]; unfold sizeL; rw [if_neg (by rw [HOL.out]; exact h3)])
  obtain ⟨oa, oc, ol⟩ := o
  simp only at *
  go_enter Tryz.func84, Tryz.ntmps84
  go_wp2_with fail
  go_loop [3, 4] (fun s i => ∃ (k n : Nat), k ≤ ol.length ∧ i = .int .i64 k ∧ s = .int .i64 (n : Int) ∧ n ≤ 27000300 ∧ Hid (n = (((ol.map TermI.L).take k).map one17).sum)) (fun _ i => ol.length - (intOf i).toNat)
  case atStart => exact ⟨0, 0, by omega, rfl, rfl, by omega, Lib.hid (by simp)⟩
  case round =>
  obtain ⟨k, n, hk, rfl, rfl, hn, HN⟩ := hrel
  by_cases hlt : k < ol.length
  · obtain ⟨b, off, i, hA, hx, hw, hd0, hd1, hd2, hd3, hd4, hd5⟩ := (HP.out _ hK.out.now).at_ hlt
    simp only at hA
    subst hA
    have hpl := hw.2.ln
    have hxl : (ol.map TermI.L)[k]? = some i.L := by rw [List.getElem?_map, hx]; rfl
    obtain ⟨m, hm⟩ : ∃ m : Nat, min i.ps.length 90000 = m := ⟨_, rfl⟩
    have HN2 : Hid (n + 1 + m = (((ol.map TermI.L).take (k + 1)).map one17).sum) := Lib.hid (by rw [sum_take one17 hxl, ← HN.out, ← hm]; show _ = n + (1 + min i.ps.length 90000); omega)
    have hm1 : m ≤ 90000 := by omega
    have hb : n + 1 + m ≤ 27000300 := by
      have h1 := sum_take_le one17 90001 300 one17_le (ol.map TermI.L) (by rw [List.length_map]; omega) (k + 1)
      rw [← HN2.out] at h1; omega
    have hmi : min (i.ps.length : Int) 90000 = (m : Int) := by omega
    clear hx hw hxl hm hd0 hd1 hd2 hd3 hd4
    go_wp2_with fail
    go_round
    case rel => exact ⟨k + 1, n + 1 + m, by omega, by go_num, by go_num, hb, HN2⟩
    case measure => simp [intOf]; omega
  · obtain rfl : k = ol.length := by omega
    have hd : decide (ol.length < ol.length) = false := by simp
    have HE : Hid ((n : Int) = v) := Lib.hid (by
      have h1 := HN.out
      rw [show ol.length = (ol.map TermI.L).length from (List.length_map _).symm, List.take_length] at h1
      have h2 := HV.out
      have h3 : (OutI.L ⟨oa, oc, ol⟩) = ol.map TermI.L := rfl
      rw [h3] at h2; omega)
    go_wp2_with fail
    go_ret
    exact ⟨congrArg (fun u => Ending.returned (.int .i64 u)) HE.out, hK⟩
set_option maxRecDepth 100000 in
set_option maxHeartbeats 16000000 in
theorem Small_st (hK : Hid (St w0 w F)) (cs : Array Value) (T : TabI) (hC : TabC cs T) (ht : ∀ W, F W → TabW T W) (v : Bool) (hv : Hid (pB (SmallT T.L) = v)) :
    Calls Tryz.prog 32 #[.agg cs] w (RetV w0 (.bool v) F) := by
  have HT := Lib.hid ht
  have h258 := hC.c3
  have h257 := hC.c2
  have h256 := hC.c1
  have HK := St.tbox hK cs
  have HRES : Hid (∀ W, Hid (St w0 W (fun W => TabBox w.heap.size cs W ∧ F W)) → Hid (St w0 W F)) := Lib.hid fun W h => Lib.hid (h.out.weaken fun _ h => h.2)
  clear ht
  have hln1 := (HT.out _ HK.out.now.2).nodes.ln
  have hln2 := (HT.out _ HK.out.now.2).acts.ln
  have hln3 := (HT.out _ HK.out.now.2).ends.ln
  by_cases a2 : ¬ T.ns.length ≤ 300
  · obtain rfl := pB_f hv (fun H => a2 (by have := H.1; rwa [nodesL_len] at this))
    have a2' : (300 : Int) < T.ns.length := by omega
    clear a2
    go_enter Tryz.func32, Tryz.ntmps32
    go_wp2_with fail
    go_ret
    exact ⟨rfl, HRES.out _ HK⟩
  by_cases a3 : ¬ T.acts.length ≤ 300
  · obtain rfl := pB_f hv (fun H => a3 (by have := H.2.1; rwa [actsL_len] at this))
    have a3' : (300 : Int) < T.acts.length := by omega
    clear a2 a3
    go_enter Tryz.func32, Tryz.ntmps32
    go_wp2_with fail
    all_goals (go_ret; exact ⟨rfl, HRES.out _ HK⟩)
  by_cases a4 : ¬ T.es.length ≤ 300
  · obtain rfl := pB_f hv (fun H => a4 (by have := H.2.2.1; rwa [endsL_len] at this))
    have a4' : (300 : Int) < T.es.length := by omega
    clear a2 a3 a4
    go_enter Tryz.func32, Tryz.ntmps32
    go_wp2_with fail
    all_goals (go_ret; exact ⟨rfl, HRES.out _ HK⟩)
  have hl1 : T.ns.length ≤ 300 := by omega
  have hl2 : T.acts.length ≤ 300 := by omega
  have hl3 : T.es.length ≤ 300 := by omega
  clear a2 a3 a4 hln1 hln2 hln3
  go_enter Tryz.func32, Tryz.ntmps32
  go_wp2_with fail
  go_loopw [3, 4] (fun s i wr => ∃ (k n : Nat), k ≤ T.ns.length ∧ i = .int .i64 k ∧ s = .int .i64 (n : Int) ∧ n ≤ 27000000 ∧ Hid (n = ((T.L.nodes.take k).map nodeN).sum) ∧ Hid (St w0 wr (fun W => TabBox w.heap.size cs W ∧ F W))) (fun _ i _ => T.ns.length - (intOf i).toNat)
  case atStart => exact ⟨0, 0, by omega, rfl, rfl, by omega, Lib.hid (by simp), HK⟩
  case round =>
  clear HK
  obtain ⟨k, n, hk, rfl, rfl, hn, HN, HK⟩ := hrel
  have p6 := HK.out.now.1.cell1 h256
  by_cases hlt : k < T.ns.length
  · obtain ⟨b, off, q, hA, hx, hw, r0, r1, r2⟩ := (HT.out _ HK.out.now.2).nodes.at_ hlt
    rw [hA] at p6
    have hpl := hw.2.ln
    have hxl := nodesL_at hx
    obtain ⟨m, hm⟩ : ∃ m : Nat, min q.nx.length 90000 = m := ⟨_, rfl⟩
    have HN2 : Hid (n + m = ((T.L.nodes.take (k + 1)).map nodeN).sum) := Lib.hid (by rw [sum_take nodeN hxl, ← HN.out, ← hm]; rfl)
    have hm1 : m ≤ 90000 := by omega
    have hb : n + m ≤ 27000000 := by
      have h1 := sum_take_le nodeN 90000 300 nodeN_le T.L.nodes (by rw [nodesL_len]; omega) (k + 1)
      rw [← HN2.out] at h1; omega
    have hmi : min (q.nx.length : Int) 90000 = (m : Int) := by omega
    clear hx hw hxl hm r0 r2 hA
    go_wp2_with fail
    exact ⟨⟨k + 1, n + m, by omega, by go_num, by go_num, hb, HN2, HK⟩, by simp [intOf]; omega⟩
  obtain rfl : k = T.ns.length := by omega
  have hd : decide (T.ns.length < T.ns.length) = false := by simp
  have HN1 : Hid (n = (T.L.nodes.map nodeN).sum) := Lib.hid (by
    have h1 := HN.out
    rwa [← nodesL_len, List.take_length] at h1)
  have hn1 := hn
  obtain ⟨n1, hnn⟩ : ∃ n1, n = n1 := ⟨_, rfl⟩
  rw [hnn] at hn1 HN1 ⊢
  clear HN hn hnn n
  go_wp2_with fail
  clear hd p6
  go_loopw [3, 5] (fun s i wr => ∃ (k n : Nat), k ≤ T.acts.length ∧ i = .int .i64 k ∧ s = .int .i64 (n : Int) ∧ n ≤ 27000000 + 300 * 27000300 ∧ Hid (n = n1 + ((T.L.acts.take k).map fun a => sizeL a.out).sum) ∧ Hid (St w0 wr (fun W => TabBox w.heap.size cs W ∧ F W))) (fun _ i _ => T.acts.length - (intOf i).toNat)
  case atStart => exact ⟨0, n1, by omega, rfl, rfl, by omega, Lib.hid (by simp), HK⟩
  case round =>
  clear HK
  obtain ⟨k, n, hk, rfl, rfl, hn, HN, HK⟩ := hrel
  have p7 := HK.out.now.1.cell1 h257
  by_cases hlt : k < T.acts.length
  · obtain ⟨b, off, q, hA, hx, hw, r0, r1, r2⟩ := (HT.out _ HK.out.now.2).acts.at_ hlt
    rw [hA] at p7
    have hxl := actsL_at hx
    obtain ⟨m, hm⟩ : ∃ m : Nat, sizeL q.o.L = m := ⟨_, rfl⟩
    have HM := Lib.hid hm
    have HN2 : Hid (n + m = n1 + ((T.L.acts.take (k + 1)).map fun a => sizeL a.out).sum) := Lib.hid (by rw [sum_take (fun a => sizeL a.out) hxl, ← hm]; have := HN.out; show n + _ = n1 + (_ + sizeL q.o.L); omega)
    have hm1 : m ≤ 27000300 := by rw [← hm]; exact sizeL_le _
    have hb : n + m ≤ 27000000 + 300 * 27000300 := by
      have h1 := sum_take_le (fun a : ActL => sizeL a.out) 27000300 300 (fun _ => sizeL_le _) T.L.acts (by rw [actsL_len]; omega) (k + 1)
      have h2 := HN2.out; omega
    have HKo := Lib.hid (HK.out.add (Below.refl _ _) (G := OutW q.o) (fun W hW => OutW.stays _ _ _ hw.2 hW))
    clear hx hw hxl hm r0 r1 hA
    go_wp2_with fail
    refine (size_st HKo q.o (fun _ h => h.1) m HM).mono ?_
    rintro e w5 ⟨rfl, HK5⟩
    go_wp2_with fail
    exact ⟨⟨k + 1, n + m, by omega, by go_num, by go_num, hb, HN2, Lib.hid (HK5.out.weaken fun _ h => h.2)⟩, by simp [intOf]; omega⟩
  obtain rfl : k = T.acts.length := by omega
  have hd : decide (T.acts.length < T.acts.length) = false := by simp
  have HN2 : Hid (n = n1 + (T.L.acts.map fun a => sizeL a.out).sum) := Lib.hid (by
    have h1 := HN.out
    rwa [← actsL_len, List.take_length] at h1)
  have hn2 := hn
  obtain ⟨n2, hnn⟩ : ∃ n2, n = n2 := ⟨_, rfl⟩
  rw [hnn] at hn2 HN2 ⊢
  clear HN hn hnn n
  go_wp2_with fail
  clear hd p7
  go_loopw [3, 6] (fun s i wr => ∃ (k n : Nat), k ≤ T.es.length ∧ i = .int .i64 k ∧ s = .int .i64 (n : Int) ∧ n ≤ 27000000 + 600 * 27000300 ∧ Hid (n = n2 + ((T.L.ends.take k).map sizeL).sum) ∧ Hid (St w0 wr (fun W => TabBox w.heap.size cs W ∧ F W))) (fun _ i _ => T.es.length - (intOf i).toNat)
  case atStart => exact ⟨0, n2, by omega, rfl, rfl, by omega, Lib.hid (by simp), HK⟩
  case round =>
  clear HK
  obtain ⟨k, n, hk, rfl, rfl, hn, HN, HK⟩ := hrel
  have p8 := HK.out.now.1.cell1 h258
  by_cases hlt : k < T.es.length
  · obtain ⟨b, off, q, hA, hx, hw, r0⟩ := (HT.out _ HK.out.now.2).ends.at_ hlt
    rw [hA] at p8
    have hxl := endsL_at hx
    obtain ⟨m, hm⟩ : ∃ m : Nat, sizeL q.L = m := ⟨_, rfl⟩
    have HM := Lib.hid hm
    have HN2 : Hid (n + m = n2 + ((T.L.ends.take (k + 1)).map sizeL).sum) := Lib.hid (by rw [sum_take sizeL hxl, ← hm]; have := HN.out; omega)
    have hm1 : m ≤ 27000300 := by rw [← hm]; exact sizeL_le _
    have hb : n + m ≤ 27000000 + 600 * 27000300 := by
      have h1 := sum_take_le sizeL 27000300 300 sizeL_le T.L.ends (by rw [endsL_len]; omega) (k + 1)
      have h2 := HN2.out; omega
    have HKo := Lib.hid (HK.out.add (Below.refl _ _) (G := OutW q) (fun W hW => OutW.stays _ _ _ hw hW))
    clear hx hw hxl hm hA
    go_wp2_with fail
    refine (size_st HKo q (fun _ h => h.1) m HM).mono ?_
    rintro e w5 ⟨rfl, HK5⟩
    go_wp2_with fail
    exact ⟨⟨k + 1, n + m, by omega, by go_num, by go_num, hb, HN2, Lib.hid (HK5.out.weaken fun _ h => h.2)⟩, by simp [intOf]; omega⟩
  obtain rfl : k = T.es.length := by omega
  have hd : decide (T.es.length < T.es.length) = false := by simp
  have HN3 : Hid (n = sumT T.L) := Lib.hid (by
    have h1 := HN.out
    rw [← endsL_len, List.take_length] at h1
    rw [h1, HN2.out, HN1.out]; rfl)
  by_cases h8 : n ≤ 80000
  · have h8' : decide ((n : Int) ≤ 80000) = true := decide_eq_true (by omega)
    obtain rfl := pB_t hv ⟨by rw [nodesL_len]; exact hl1, by rw [actsL_len]; exact hl2, by rw [endsL_len]; exact hl3, by rw [← HN3.out]; exact h8⟩
    clear h8
    go_wp2_with fail
    go_ret
    exact ⟨rfl, HRES.out _ HK⟩
  · have h8' : decide ((n : Int) ≤ 80000) = false := decide_eq_false (by omega)
    obtain rfl := pB_f hv (fun H => h8 (by rw [HN3.out]; exact H.2.2.2))
    clear h8
    go_wp2_with fail
    go_ret
    exact ⟨rfl, HRES.out _ HK⟩
end
end Go.Proofs.YtlmkokeapbleoaaGreat
end
section
namespace Go.Proofs.YtlmkokeapbleoaaGreat
open Go.RowKit Go.ChangeShapes Go.WideShapes Go.Deep
set_option linter.unusedVariables false
section
variable {H : Type} {enc : TypeId × Value → H} {W : World} {base : Nat} {spare : Nat → Bool} {held : Bool}
/-- what is read at type t is some a's cells, and R holds of it -/
def OpensAs (enc : TypeId × Value → H) (W : World) (base : Nat) (spare : Nat → Bool) (held : Bool) (t : TypeId) {α : Type} (f : α → List Value) (R : α → World → Prop) : Prop :=
  ∀ (fuel : Nat) (cs : List Value) (x : DataW H × List MemPlace), DataW.trod enc Tryz.prog W base spare held fuel t cs = some x → ∃ a, cs = f a ∧ R a W
theorem opens_int : OpensAs enc W base spare held 3 (fun z => [Value.int .i64 z]) (fun z _ => I64 z) := fun fuel cs x h => by
  obtain ⟨z, e, _, w⟩ := DataW.trod_int Tryz.underlying3 h
  exact ⟨z, e, I64.of_wf w⟩
theorem add_none (b off k : Nat) : (⟨b, off, none⟩ : Addr).add k = ⟨b, off + k, none⟩ := by unfold Addr.add; split <;> simp_all
theorem opens_slice {t e : TypeId} {α : Type} {size : Nat} {f : α → List Value} {R : α → World → Prop} (ht : Tryz.prog.underlying t = some (.slice e)) (hce : Tryz.prog.cellsOf e = size) (hs : 0 < size) (hf : ∀ a, (f a).length = size)
    (he : OpensAs enc W base spare held e f R) {fuel : Nat} {cs : List Value} {x : DataW H × List MemPlace} (h : DataW.trod enc Tryz.prog W base spare held fuel t cs = some x) :
    ∃ A L c, cs = [Value.slice A L.length c] ∧ RowsAt size f R A L W ∧ L.length ≤ c ∧ c ≤ 9223372036854775807 := by
  rcases open_slice ht h with ⟨hcs, _⟩ | ⟨b, len, cap, m, n, D, Pl, hcs, _, hl, hm, hmm, _, hc⟩
  · exact ⟨none, [], 0, hcs, RowsAt.nil_ _ _ _ _ _, Nat.le_refl _, by omega⟩
  · have hlm : len ≤ m := by rw [hmm]; split <;> omega
    unfold maxLen at hm
    rcases Nat.eq_zero_or_pos len with h0 | hpos
    · subst h0
      exact ⟨some b, [], cap, hcs, RowsAt.nil_ _ _ _ _ _, Nat.zero_le _, hm⟩
    have each : ∀ i, ∃ a : α, i < len → ((∀ j u, (f a)[j]? = some u → W.cell? (b.add (i * size + j)) = some u) ∧ R a W) := by
      intro i
      obtain ⟨cs0, h10, h20⟩ := hc 0 (by omega)
      obtain ⟨a0, e0, r0⟩ := he _ _ _ h20
      by_cases hi : i < len
      · obtain ⟨cs', h1, h2⟩ := hc i (by omega)
        rw [hce] at h1
        obtain ⟨_, hlen, hat⟩ := World.cells?_some h1
        obtain ⟨a, rfl, r⟩ := he _ _ _ h2
        refine ⟨a, fun _ => ⟨fun j u hu => ?_, r⟩⟩
        have hj : j < size := by have := (List.getElem?_eq_some_iff.1 hu).1; rwa [hf] at this
        have := hat j (by omega)
        rw [Go.Deep.add_add] at this
        rw [this, hu]
      · exact ⟨a0, fun g => absurd g hi⟩
    obtain ⟨q, hq⟩ := Classical.skolem.1 each
    have hL : ((List.range len).map q).length = len := by simp
    refine ⟨some b, (List.range len).map q, cap, by rw [hL]; exact hcs, ⟨⟨?_, fun _ => ?_⟩, fun a ha => ?_, by rw [hL]; omega⟩, by rw [hL]; exact hl, hm⟩
    · rw [hL]
      have : ∀ l : List α, (l.flatMap f).length = l.length * size := by
        intro l; induction l with
        | nil => simp
        | cons y l ih => rw [List.flatMap_cons, List.length_append, ih, hf, List.length_cons, Nat.succ_mul]; omega
      rw [this, hL]
    · obtain ⟨bb, off, spot⟩ := b
      have hu0 : ∃ u, (f (q 0))[0]? = some u := ⟨(f (q 0))[0]'(by rw [hf]; exact hs), by simp [hf, hs]⟩
      obtain ⟨u0, hu0⟩ := hu0
      have h0 := (hq 0 hpos).1 0 u0 hu0
      have hs0 : spot = none := by simpa [Addr.add] using World.cell?_spot h0
      subst hs0
      refine ⟨bb, off, rfl, fun j u hu => ?_⟩
      have hjl : j < len * size := by
        have := (List.getElem?_eq_some_iff.1 hu).1
        have h2 : ∀ l : List α, (l.flatMap f).length = l.length * size := by
          intro l; induction l with
          | nil => simp
          | cons y l ih => rw [List.flatMap_cons, List.length_append, ih, hf, List.length_cons, Nat.succ_mul]; omega
        rw [h2, hL] at this; exact this
      have hdm := Nat.div_add_mod j size
      have hdl : j / size < len := (Nat.div_lt_iff_lt_mul hs).2 hjl
      have hmod := Nat.mod_lt j hs
      have hx : ((List.range len).map q)[j / size]? = some (q (j / size)) := by simp [hdl]
      obtain ⟨u', hu'⟩ : ∃ u', (f (q (j / size)))[j % size]? = some u' := ⟨(f (q (j / size)))[j % size]'(by rw [hf]; exact hmod), by simp [hf, hmod]⟩
      have h3 := flatMap_at hf hx hu'
      rw [Nat.mul_comm, hdm] at h3
      obtain rfl : u' = u := Option.some.inj (h3.symm.trans hu)
      have := (hq _ hdl).1 _ _ hu'
      rw [Nat.mul_comm, hdm, add_none] at this
      exact this
    · obtain ⟨r, hr, rfl⟩ := List.mem_map.1 ha
      exact (hq r (List.mem_range.1 hr)).2
end
end Go.Proofs.YtlmkokeapbleoaaGreat
end
section
namespace Go.Proofs.YtlmkokeapbleoaaGreat
open Go.RowKit Go.ChangeShapes Go.WideShapes Go.Deep
set_option linter.unusedVariables false
set_option linter.unusedSimpArgs false
set_option maxRecDepth 100000
theorem list3 {α : Type} {l : List α} (h : l.length = 3) : ∃ a b c, l = [a, b, c] := by
  match l, h with
  | [a, b, c], _ => exact ⟨a, b, c, rfl⟩
theorem list4 {α : Type} {l : List α} (h : l.length = 4) : ∃ a b c d, l = [a, b, c, d] := by
  match l, h with
  | [a, b, c, d], _ => exact ⟨a, b, c, d, rfl⟩
theorem list6 {α : Type} {l : List α} (h : l.length = 6) : ∃ a b c d e f, l = [a, b, c, d, e, f] := by
  match l, h with
  | [a, b, c, d, e, f], _ => exact ⟨a, b, c, d, e, f, rfl⟩
section
variable {H : Type} {enc : TypeId × Value → H} {W : World} {base : Nat} {spare : Nat → Bool} {held : Bool}
theorem opens_part : OpensAs enc W base spare held 70 partC (fun p _ => PartW p) := fun fuel cs x h => by
  obtain ⟨xs, n, _, rfl, hl, hlen, hf⟩ := DataW.trod_struct Tryz.underlying70 h
  rw [show Tryz.prog.cellsOf 70 = 4 from by kernel_rfl] at hl
  obtain ⟨c0, c1, c2, c3, rfl⟩ := list4 hl
  obtain ⟨x0, x1, x2, x3, rfl⟩ := list4 hlen
  have h0 : DataW.trod enc Tryz.prog W base spare held n 3 [c0] = some x0 := by have := hf 0 _ rfl; simpa [show Tryz.prog.cellsOf 3 = 1 from by kernel_rfl] using this
  have h1 : DataW.trod enc Tryz.prog W base spare held n 3 [c1] = some x1 := by have := hf 1 _ rfl; simpa [show Tryz.prog.cellsOf 3 = 1 from by kernel_rfl] using this
  have h2 : DataW.trod enc Tryz.prog W base spare held n 3 [c2] = some x2 := by have := hf 2 _ rfl; simpa [show Tryz.prog.cellsOf 3 = 1 from by kernel_rfl] using this
  have h3 : DataW.trod enc Tryz.prog W base spare held n 3 [c3] = some x3 := by have := hf 3 _ rfl; simpa [show Tryz.prog.cellsOf 3 = 1 from by kernel_rfl] using this
  obtain ⟨z0, e0, w0⟩ := opens_int _ _ _ h0
  obtain ⟨z1, e1, w1⟩ := opens_int _ _ _ h1
  obtain ⟨z2, e2, w2⟩ := opens_int _ _ _ h2
  obtain ⟨z3, e3, w3⟩ := opens_int _ _ _ h3
  simp only [List.cons.injEq, and_true] at e0 e1 e2 e3
  exact ⟨(z0, z1, z2, z3), by rw [e0, e1, e2, e3]; rfl, ⟨w0, w1, w2, w3⟩⟩
theorem open_parts {fuel : Nat} {cs : List Value} {x : DataW H × List MemPlace} (h : DataW.trod enc Tryz.prog W base spare held fuel 66 cs = some x) :
    ∃ A L c, cs = [Value.slice A L.length c] ∧ PartsAt A L W ∧ L.length ≤ c ∧ c ≤ 9223372036854775807 := opens_slice (size := 4) Tryz.underlying66 (by kernel_rfl) (by decide) (fun _ => rfl) opens_part h
theorem opens_term : OpensAs enc W base spare held 68 termC TermW := fun fuel cs x h => by
  obtain ⟨xs, n, _, rfl, hl, hlen, hf⟩ := DataW.trod_struct Tryz.underlying68 h
  rw [show Tryz.prog.cellsOf 68 = 6 from by kernel_rfl] at hl
  obtain ⟨c0, c1, c2, c3, c4, c5, rfl⟩ := list6 hl
  obtain ⟨x0, x1, x2, x3, x4, x5, rfl⟩ := list6 hlen
  have h0 : DataW.trod enc Tryz.prog W base spare held n 3 [c0] = some x0 := by have := hf 0 _ rfl; simpa [show Tryz.prog.cellsOf 3 = 1 from by kernel_rfl] using this
  have h1 : DataW.trod enc Tryz.prog W base spare held n 3 [c1] = some x1 := by have := hf 1 _ rfl; simpa [show Tryz.prog.cellsOf 3 = 1 from by kernel_rfl] using this
  have h2 : DataW.trod enc Tryz.prog W base spare held n 3 [c2] = some x2 := by have := hf 2 _ rfl; simpa [show Tryz.prog.cellsOf 3 = 1 from by kernel_rfl] using this
  have h3 : DataW.trod enc Tryz.prog W base spare held n 3 [c3] = some x3 := by have := hf 3 _ rfl; simpa [show Tryz.prog.cellsOf 3 = 1 from by kernel_rfl] using this
  have h4 : DataW.trod enc Tryz.prog W base spare held n 3 [c4] = some x4 := by have := hf 4 _ rfl; simpa [show Tryz.prog.cellsOf 3 = 1 from by kernel_rfl] using this
  have h5 : DataW.trod enc Tryz.prog W base spare held n 66 [c5] = some x5 := by have := hf 5 _ rfl; simpa [show Tryz.prog.cellsOf 66 = 1 from by kernel_rfl] using this
  obtain ⟨z0, e0, w0⟩ := opens_int _ _ _ h0
  obtain ⟨z1, e1, w1⟩ := opens_int _ _ _ h1
  obtain ⟨z2, e2, w2⟩ := opens_int _ _ _ h2
  obtain ⟨z3, e3, w3⟩ := opens_int _ _ _ h3
  obtain ⟨z4, e4, w4⟩ := opens_int _ _ _ h4
  obtain ⟨A5, L5, C5, e5, w5, hc5, _⟩ := open_parts h5
  simp only [List.cons.injEq, and_true] at e0 e1 e2 e3 e4 e5
  exact ⟨⟨z0, z1, z2, z3, z4, A5, C5, L5⟩, by rw [e0, e1, e2, e3, e4, e5]; rfl, ⟨⟨w0, w1, w2, w3, w4⟩, w5⟩⟩
theorem open_terms {fuel : Nat} {cs : List Value} {x : DataW H × List MemPlace} (h : DataW.trod enc Tryz.prog W base spare held fuel 57 cs = some x) :
    ∃ A L c, cs = [Value.slice A L.length c] ∧ TermsAt A L W ∧ L.length ≤ c ∧ c ≤ 9223372036854775807 := opens_slice (size := 6) Tryz.underlying57 (by kernel_rfl) (by decide) (fun _ => rfl) opens_term h
theorem opens_out : OpensAs enc W base spare held 57 (fun o => [OutI.v o]) OutW := fun fuel cs x h => by
  obtain ⟨A, L, c, e, w, _, _⟩ := open_terms h
  exact ⟨⟨A, c, L⟩, e, w⟩
theorem open_outs {fuel : Nat} {cs : List Value} {x : DataW H × List MemPlace} (h : DataW.trod enc Tryz.prog W base spare held fuel 47 cs = some x) :
    ∃ A L c, cs = [Value.slice A L.length c] ∧ EndsAt A L W ∧ L.length ≤ c ∧ c ≤ 9223372036854775807 := opens_slice (size := 1) Tryz.underlying47 (by kernel_rfl) (by decide) (fun _ => rfl) opens_out h
theorem open_intsR {fuel : Nat} {cs : List Value} {x : DataW H × List MemPlace} (h : DataW.trod enc Tryz.prog W base spare held fuel 62 cs = some x) :
    ∃ A L c, cs = [Value.slice A L.length c] ∧ IntsAt A L W ∧ L.length ≤ c ∧ c ≤ 9223372036854775807 := opens_slice (size := 1) Tryz.underlying62 (by kernel_rfl) (by decide) (fun _ => rfl) opens_int h
theorem opens_node : OpensAs enc W base spare held 64 nodeC NodeW := fun fuel cs x h => by
  obtain ⟨xs, n, _, rfl, hl, hlen, hf⟩ := DataW.trod_struct Tryz.underlying64 h
  rw [show Tryz.prog.cellsOf 64 = 3 from by kernel_rfl] at hl
  obtain ⟨c0, c1, c2, rfl⟩ := list3 hl
  obtain ⟨x0, x1, x2, rfl⟩ := list3 hlen
  have h0 : DataW.trod enc Tryz.prog W base spare held n 3 [c0] = some x0 := by have := hf 0 _ rfl; simpa [show Tryz.prog.cellsOf 3 = 1 from by kernel_rfl] using this
  have h1 : DataW.trod enc Tryz.prog W base spare held n 62 [c1] = some x1 := by have := hf 1 _ rfl; simpa [show Tryz.prog.cellsOf 62 = 1 from by kernel_rfl] using this
  have h2 : DataW.trod enc Tryz.prog W base spare held n 3 [c2] = some x2 := by have := hf 2 _ rfl; simpa [show Tryz.prog.cellsOf 3 = 1 from by kernel_rfl] using this
  obtain ⟨z0, e0, w0⟩ := opens_int _ _ _ h0
  obtain ⟨A1, L1, C1, e1, w1, hc1, _⟩ := open_intsR h1
  obtain ⟨z2, e2, w2⟩ := opens_int _ _ _ h2
  simp only [List.cons.injEq, and_true] at e0 e1 e2
  exact ⟨⟨z0, A1, C1, L1, z2⟩, by rw [e0, e1, e2]; rfl, ⟨⟨w0, w2⟩, w1⟩⟩
theorem opens_act : OpensAs enc W base spare held 59 actC ActW := fun fuel cs x h => by
  obtain ⟨xs, n, _, rfl, hl, hlen, hf⟩ := DataW.trod_struct Tryz.underlying59 h
  rw [show Tryz.prog.cellsOf 59 = 3 from by kernel_rfl] at hl
  obtain ⟨c0, c1, c2, rfl⟩ := list3 hl
  obtain ⟨x0, x1, x2, rfl⟩ := list3 hlen
  have h0 : DataW.trod enc Tryz.prog W base spare held n 3 [c0] = some x0 := by have := hf 0 _ rfl; simpa [show Tryz.prog.cellsOf 3 = 1 from by kernel_rfl] using this
  have h1 : DataW.trod enc Tryz.prog W base spare held n 3 [c1] = some x1 := by have := hf 1 _ rfl; simpa [show Tryz.prog.cellsOf 3 = 1 from by kernel_rfl] using this
  have h2 : DataW.trod enc Tryz.prog W base spare held n 57 [c2] = some x2 := by have := hf 2 _ rfl; simpa [show Tryz.prog.cellsOf 57 = 1 from by kernel_rfl] using this
  obtain ⟨z0, e0, w0⟩ := opens_int _ _ _ h0
  obtain ⟨z1, e1, w1⟩ := opens_int _ _ _ h1
  obtain ⟨A2, L2, C2, e2, w2, hc2, _⟩ := open_terms h2
  simp only [List.cons.injEq, and_true] at e0 e1 e2
  exact ⟨⟨z0, z1, ⟨A2, C2, L2⟩⟩, by rw [e0, e1, e2]; rfl, ⟨⟨w0, w1⟩, w2⟩⟩
theorem open_nodes {fuel : Nat} {cs : List Value} {x : DataW H × List MemPlace} (h : DataW.trod enc Tryz.prog W base spare held fuel 45 cs = some x) :
    ∃ A L c, cs = [Value.slice A L.length c] ∧ NodesAt A L W ∧ L.length ≤ c ∧ c ≤ 9223372036854775807 := opens_slice (size := 3) Tryz.underlying45 (by kernel_rfl) (by decide) (fun _ => rfl) opens_node h
theorem open_acts {fuel : Nat} {cs : List Value} {x : DataW H × List MemPlace} (h : DataW.trod enc Tryz.prog W base spare held fuel 46 cs = some x) :
    ∃ A L c, cs = [Value.slice A L.length c] ∧ ActsAt A L W ∧ L.length ≤ c ∧ c ≤ 9223372036854775807 := opens_slice (size := 3) Tryz.underlying46 (by kernel_rfl) (by decide) (fun _ => rfl) opens_act h
theorem open_cls {fuel : Nat} {cs : List Value} {x : DataW H × List MemPlace} (h : DataW.trod enc Tryz.prog W base spare held fuel 44 cs = some x) : ∃ l : List Int, l.length = 256 ∧ U8s l ∧ cs = l.map (Value.int .u8) := by
  obtain ⟨xs, m, _, _, hl, hlen, hf⟩ := DataW.trod_array Tryz.underlying44 h
  rw [show Tryz.prog.cellsOf 44 = 256 from by kernel_rfl] at hl
  rw [show Tryz.prog.cellsOf 5 = 1 from by kernel_rfl] at hf
  have each : ∀ i, ∃ z : Int, i < 256 → (cs[i]? = some (Value.int .u8 z) ∧ 0 ≤ z ∧ z < 256) := by
    intro i
    by_cases hi : i < 256
    · have h1 := hf i hi
      rw [List.getElem?_eq_getElem (show i < xs.length by omega)] at h1
      obtain ⟨z, e, _, w⟩ := DataW.trod_int Tryz.underlying5 h1
      refine ⟨z, fun _ => ⟨?_, ?_⟩⟩
      · have := congrArg (fun l => l[0]?) e
        simpa using this
      · simp [Lit.wf, IntKind.min, IntKind.max, IntKind.signed, IntKind.bits] at w
        omega
    · exact ⟨0, fun g => absurd g hi⟩
  obtain ⟨q, hq⟩ := Classical.skolem.1 each
  refine ⟨(List.range 256).map q, by simp, fun z hz => ?_, ?_⟩
  · obtain ⟨i, hi, rfl⟩ := List.mem_map.1 hz
    exact (hq i (List.mem_range.1 hi)).2
  · refine List.ext_getElem? fun i => ?_
    by_cases hi : i < 256
    · rw [(hq i hi).1]; simp [List.getElem?_range hi]
    · rw [List.getElem?_eq_none (by omega), List.getElem?_eq_none (by simp; omega)]
theorem open_table {fuel : Nat} {cs : List Value} {x : DataW H × List MemPlace} (h : DataW.trod enc Tryz.prog W base spare held fuel 49 cs = some x) : ∃ T : TabI, TabC cs.toArray T ∧ TabW T W := by
  obtain ⟨xs, n, _, rfl, hl, hlen, hf⟩ := DataW.trod_struct Tryz.underlying49 h
  rw [show Tryz.prog.cellsOf 49 = 259 from by kernel_rfl] at hl
  obtain ⟨x0, x1, x2, x3, rfl⟩ := list4 hlen
  have h0 : DataW.trod enc Tryz.prog W base spare held n 44 (cs.take 256) = some x0 := by have := hf 0 _ rfl; simpa [show Tryz.prog.cellsOf 44 = 256 from by kernel_rfl] using this
  have h1 : DataW.trod enc Tryz.prog W base spare held n 45 ((cs.drop 256).take 1) = some x1 := by have := hf 1 _ rfl; simpa [show Tryz.prog.cellsOf 45 = 1 from by kernel_rfl] using this
  have h2 : DataW.trod enc Tryz.prog W base spare held n 46 ((cs.drop 257).take 1) = some x2 := by have := hf 2 _ rfl; simpa [show Tryz.prog.cellsOf 46 = 1 from by kernel_rfl] using this
  have h3 : DataW.trod enc Tryz.prog W base spare held n 47 ((cs.drop 258).take 1) = some x3 := by have := hf 3 _ rfl; simpa [show Tryz.prog.cellsOf 47 = 1 from by kernel_rfl] using this
  obtain ⟨l, hl1, hl2, hl3⟩ := open_cls h0
  obtain ⟨A1, L1, C1, e1, w1, _, _⟩ := open_nodes h1
  obtain ⟨A2, L2, C2, e2, w2, _, _⟩ := open_acts h2
  obtain ⟨A3, L3, C3, e3, w3, _, _⟩ := open_outs h3
  have at1 : ∀ (k : Nat) (v : Value), (cs.drop k).take 1 = [v] → cs.toArray[k]? = some v := fun k v e => by
    have := congrArg (fun z => z[0]?) e
    simpa using this
  refine ⟨⟨l, A1, C1, L1, A2, C2, L2, A3, C3, L3⟩, ⟨by simpa using hl, hl1, hl2, fun i z hz => ?_, at1 256 _ e1, at1 257 _ e2, at1 258 _ e3⟩, ⟨w1, w2, w3⟩⟩
  have hi : i < 256 := by have := (List.getElem?_eq_some_iff.1 hz).1; rw [hl1] at this; exact this
  have := congrArg (fun y => y[i]?) hl3
  simp only [List.getElem?_take, hi, if_true, List.getElem?_map, hz, Option.map_some] at this
  simpa using this
end
end Go.Proofs.YtlmkokeapbleoaaGreat
end
section
namespace Go.Proofs.YtlmkokeapbleoaaGreat
open Go.RowKit
set_option linter.unusedVariables false
set_option linter.unusedSimpArgs false
/-- a slice of bytes -/
def BytesAt (A : Option Addr) (l : List Int) (W : World) : Prop := RowsAt 1 (fun x => [Value.int .u8 x]) (fun x _ => 0 ≤ x ∧ x < 256) A l W
theorem BytesAt.below {A : Option Addr} {l : List Int} {w w' : World} (h : BytesAt A l w) (hb : Below w.heap.size w w') : BytesAt A l w' := RowsAt.below h (fun _ _ _ h _ => h) hb
theorem BytesAt.u8 {A : Option Addr} {l : List Int} {w : World} (h : BytesAt A l w) : U8s l := h.it
theorem BytesAt.at_ {A : Option Addr} {l : List Int} {W : World} (h : BytesAt A l W) {j : Nat} (hj : j < l.length) : ∃ b off x, A = some ⟨b, off, none⟩ ∧ l[j]? = some x ∧ 0 ≤ x ∧ x < 256 ∧ W.cell? ⟨b, off + j, none⟩ = some (.int .u8 x) := by
  obtain ⟨b, off, p, hA, hp, hc, hw⟩ := RowsAt.at_ h (fun _ => rfl) hj
  have := hc 0 _ rfl
  rw [Nat.mul_one, Nat.add_zero] at this
  exact ⟨b, off, p, hA, hp, hw.1, hw.2, this⟩
theorem bytes_cells (l : List Int) : l.flatMap (fun x => [Value.int .u8 x]) = l.map (Value.int .u8) := by
  induction l with
  | nil => rfl
  | cons x l ih => rw [List.flatMap_cons, ih]; rfl
theorem BytesAt.of_own {w : World} {base : Nat} {e : TypeId} {A : Option Addr} {c : Nat} {l : List Int} (h : w.ownsRow base e 1 (.slice A l.length c) l.length (l.map (Value.int .u8))) (hu : U8s l) (hl : l.length ≤ 9223372036854775807) : BytesAt A l w :=
  ⟨by rw [bytes_cells]; exact Sl.of_own h, hu, hl⟩
end Go.Proofs.YtlmkokeapbleoaaGreat
end
section
namespace Go.Proofs.YtlmkokeapbleoaaGreat
open Go.RowKit Go.ChangeShapes Go.WideShapes Go.Deep
set_option linter.unusedVariables false
section
variable {H : Type} {enc : TypeId × Value → H} {W : World} {base : Nat} {spare : Nat → Bool} {held : Bool}
end
end Go.Proofs.YtlmkokeapbleoaaGreat
end
