/- Contracts of umlautref17.size and Small: is a table not too great. Condition: the table is known. -/
import Derived.Test.YticfbbigljgjdaaTabNode
import Derived.Lib.MinMax
namespace Go.Proofs.Yticfbbigljgjdaa
open Go.RowKit
set_option linter.unusedVariables false
set_option linter.unusedSimpArgs false
def one17 (t : TermL) : Nat := 1 + min t.parts.length 90000
def sizeL (l : List TermL) : Nat := if 300 < l.length then 90000 else (l.map one17).sum
def nodeN (n : NodeL) : Nat := min n.next.length 90000
def sumT (T : TabL) : Nat := ((T.nodes.map nodeN).sum + (T.acts.map fun a => sizeL a.out).sum) + (T.ends.map sizeL).sum
def SmallT (T : TabL) : Prop := T.nodes.length ≤ 300 ∧ T.acts.length ≤ 300 ∧ T.ends.length ≤ 300 ∧ sumT T ≤ 80000
theorem sum_take {α : Type} (f : α → Nat) {l : List α} {k : Nat} {x : α} (h : l[k]? = some x) : ((l.take (k + 1)).map f).sum = ((l.take k).map f).sum + f x := by
  rw [take_snoc? h, List.map_append, List.sum_append]; simp
theorem sum_le {α : Type} (f : α → Nat) (m : Nat) (hf : ∀ x, f x ≤ m) (l : List α) : (l.map f).sum ≤ l.length * m := by
  induction l with
  | nil => simp
  | cons x l ih => have := hf x; rw [List.map_cons, List.sum_cons, List.length_cons, Nat.add_mul]; omega
theorem sum_take_le {α : Type} (f : α → Nat) (m n : Nat) (hf : ∀ x, f x ≤ m) (l : List α) (hl : l.length ≤ n) (k : Nat) : ((l.take k).map f).sum ≤ n * m := by
  refine Nat.le_trans (sum_le f m hf _) (Nat.mul_le_mul_right _ ?_)
  rw [List.length_take]; omega
theorem one17_le (t : TermL) : one17 t ≤ 90001 := by unfold one17; omega
theorem nodeN_le (t : NodeL) : nodeN t ≤ 90000 := by unfold nodeN; omega
theorem sizeL_le (l : List TermL) : sizeL l ≤ 27000300 := by
  unfold sizeL
  split
  · omega
  · have := sum_le one17 90001 one17_le l
    have h2 : l.length * 90001 ≤ 300 * 90001 := Nat.mul_le_mul_right _ (by omega)
    omega
section
variable {w0 w : World} {F : World → Prop}
theorem size_st (hK : Hid (St w0 w F)) (o : OutI) (hp : ∀ W, F W → OutW o W) (v : Nat) (hv : Hid (sizeL o.L = v)) :
    Calls Try.prog 18 #[.slice o.a o.l.length o.c] w (RetV w0 (.int .i64 (v : Int)) F) := by
  have hln := (hp _ hK.out.now).ln
  have HP := Lib.hid hp
  have HOL : Hid (o.L.length = o.l.length) := Lib.hid (List.length_map _)
  clear hp
  by_cases h3 : 300 < o.l.length
  · obtain rfl : v = 90000 := by rw [← hv.out]; unfold sizeL; rw [if_pos (by rw [HOL.out]; exact h3)]
    have h3' : (300 : Int) < o.l.length := by omega
    go_enter Try.func18, Try.ntmps18
    go_wp2_with fail
    go_ret
    exact ⟨rfl, hK⟩
  have h3' : ¬ (300 : Int) < o.l.length := by omega
  have HV : Hid ((o.L.map one17).sum = v) := Lib.hid (by rw [← hv.out]; unfold sizeL; rw [if_neg (by rw [HOL.out]; exact h3)])
  obtain ⟨oa, oc, ol⟩ := o
  simp only at *
  go_enter Try.func18, Try.ntmps18
  go_wp2_with fail
  go_loop [3, 4] (fun s i => ∃ (k n : Nat), k ≤ ol.length ∧ i = .int .i64 k ∧ s = .int .i64 (n : Int) ∧ n ≤ 27000300 ∧ Hid (n = (((ol.map TermI.L).take k).map one17).sum)) (fun _ i => ol.length - (intOf i).toNat)
  case atStart => exact ⟨0, 0, by omega, rfl, rfl, by omega, Lib.hid (by simp)⟩
  case round =>
  obtain ⟨k, n, hk, rfl, rfl, hn, HN⟩ := hrel
  by_cases hlt : k < ol.length
  · obtain ⟨b, off, i, hA, hx, hw, hd0, hd1, hd2, hd3, hd4, hd5⟩ := (HP.out _ hK.out.now).at_ hlt
    simp only at hA
    subst hA
    have hpl := hw.2.ln
    have hxl : (ol.map TermI.L)[k]? = some i.L := by rw [List.getElem?_map, hx]; rfl
    obtain ⟨m, hm⟩ : ∃ m : Nat, min i.ps.length 90000 = m := ⟨_, rfl⟩
    have HN2 : Hid (n + 1 + m = (((ol.map TermI.L).take (k + 1)).map one17).sum) := Lib.hid (by rw [sum_take one17 hxl, ← HN.out, ← hm]; show _ = n + (1 + min i.ps.length 90000); omega)
    have hm1 : m ≤ 90000 := by omega
    have hb : n + 1 + m ≤ 27000300 := by
      have h1 := sum_take_le one17 90001 300 one17_le (ol.map TermI.L) (by rw [List.length_map]; omega) (k + 1)
      rw [← HN2.out] at h1; omega
    have hmi : min (i.ps.length : Int) 90000 = (m : Int) := by omega
    clear hx hw hxl hm hd0 hd1 hd2 hd3 hd4
    go_wp2_with fail
    go_round
    case rel => exact ⟨k + 1, n + 1 + m, by omega, by go_num, by go_num, hb, HN2⟩
    case measure => simp [intOf]; omega
  · obtain rfl : k = ol.length := by omega
    have hd : decide (ol.length < ol.length) = false := by simp
    have HE : Hid ((n : Int) = v) := Lib.hid (by
      have h1 := HN.out
      rw [show ol.length = (ol.map TermI.L).length from (List.length_map _).symm, List.take_length] at h1
      have h2 := HV.out
      have h3 : (OutI.L ⟨oa, oc, ol⟩) = ol.map TermI.L := rfl
      rw [h3] at h2; omega)
    go_wp2_with fail
    go_ret
    exact ⟨congrArg (fun u => Ending.returned (.int .i64 u)) HE.out, hK⟩
set_option maxRecDepth 100000 in
set_option maxHeartbeats 16000000 in
theorem Small_st (hK : Hid (St w0 w F)) (cs : Array Value) (T : TabI) (hC : TabC cs T) (ht : ∀ W, F W → TabW T W) (v : Bool) (hv : Hid (pB (SmallT T.L) = v)) :
    Calls Try.prog 8 #[.agg cs] w (RetV w0 (.bool v) F) := by
  have HT := Lib.hid ht
  have h258 := hC.c3
  have h257 := hC.c2
  have h256 := hC.c1
  have HK := St.tbox hK cs
  have HRES : Hid (∀ W, Hid (St w0 W (fun W => TabBox w.heap.size cs W ∧ F W)) → Hid (St w0 W F)) := Lib.hid fun W h => Lib.hid (h.out.weaken fun _ h => h.2)
  clear ht
  have hln1 := (HT.out _ HK.out.now.2).nodes.ln
  have hln2 := (HT.out _ HK.out.now.2).acts.ln
  have hln3 := (HT.out _ HK.out.now.2).ends.ln
  by_cases a2 : ¬ T.ns.length ≤ 300
  · obtain rfl := pB_f hv (fun H => a2 (by have := H.1; rwa [nodesL_len] at this))
    have a2' : (300 : Int) < T.ns.length := by omega
    clear a2
    go_enter Try.func8, Try.ntmps8
    go_wp2_with fail
    go_ret
    exact ⟨rfl, HRES.out _ HK⟩
  by_cases a3 : ¬ T.acts.length ≤ 300
  · obtain rfl := pB_f hv (fun H => a3 (by have := H.2.1; rwa [actsL_len] at this))
    have a3' : (300 : Int) < T.acts.length := by omega
    clear a2 a3
    go_enter Try.func8, Try.ntmps8
    go_wp2_with fail
    all_goals (go_ret; exact ⟨rfl, HRES.out _ HK⟩)
  by_cases a4 : ¬ T.es.length ≤ 300
  · obtain rfl := pB_f hv (fun H => a4 (by have := H.2.2.1; rwa [endsL_len] at this))
    have a4' : (300 : Int) < T.es.length := by omega
    clear a2 a3 a4
    go_enter Try.func8, Try.ntmps8
    go_wp2_with fail
    all_goals (go_ret; exact ⟨rfl, HRES.out _ HK⟩)
  have hl1 : T.ns.length ≤ 300 := by omega
  have hl2 : T.acts.length ≤ 300 := by omega
  have hl3 : T.es.length ≤ 300 := by omega
  clear a2 a3 a4 hln1 hln2 hln3
  go_enter Try.func8, Try.ntmps8
  go_wp2_with fail
  go_loopw [3, 4] (fun s i wr => ∃ (k n : Nat), k ≤ T.ns.length ∧ i = .int .i64 k ∧ s = .int .i64 (n : Int) ∧ n ≤ 27000000 ∧ Hid (n = ((T.L.nodes.take k).map nodeN).sum) ∧ Hid (St w0 wr (fun W => TabBox w.heap.size cs W ∧ F W))) (fun _ i _ => T.ns.length - (intOf i).toNat)
  case atStart => exact ⟨0, 0, by omega, rfl, rfl, by omega, Lib.hid (by simp), HK⟩
  case round =>
  clear HK
  obtain ⟨k, n, hk, rfl, rfl, hn, HN, HK⟩ := hrel
  have p6 := HK.out.now.1.cell1 h256
  by_cases hlt : k < T.ns.length
  · obtain ⟨b, off, q, hA, hx, hw, r0, r1, r2⟩ := (HT.out _ HK.out.now.2).nodes.at_ hlt
    rw [hA] at p6
    have hpl := hw.2.ln
    have hxl := nodesL_at hx
    obtain ⟨m, hm⟩ : ∃ m : Nat, min q.nx.length 90000 = m := ⟨_, rfl⟩
    have HN2 : Hid (n + m = ((T.L.nodes.take (k + 1)).map nodeN).sum) := Lib.hid (by rw [sum_take nodeN hxl, ← HN.out, ← hm]; rfl)
    have hm1 : m ≤ 90000 := by omega
    have hb : n + m ≤ 27000000 := by
      have h1 := sum_take_le nodeN 90000 300 nodeN_le T.L.nodes (by rw [nodesL_len]; omega) (k + 1)
      rw [← HN2.out] at h1; omega
    have hmi : min (q.nx.length : Int) 90000 = (m : Int) := by omega
    clear hx hw hxl hm r0 r2 hA
    go_wp2_with fail
    exact ⟨⟨k + 1, n + m, by omega, by go_num, by go_num, hb, HN2, HK⟩, by simp [intOf]; omega⟩
  obtain rfl : k = T.ns.length := by omega
  have hd : decide (T.ns.length < T.ns.length) = false := by simp
  have HN1 : Hid (n = (T.L.nodes.map nodeN).sum) := Lib.hid (by
    have h1 := HN.out
    rwa [← nodesL_len, List.take_length] at h1)
  have hn1 := hn
  obtain ⟨n1, hnn⟩ : ∃ n1, n = n1 := ⟨_, rfl⟩
  rw [hnn] at hn1 HN1 ⊢
  clear HN hn hnn n
  go_wp2_with fail
  clear hd p6
  go_loopw [3, 5] (fun s i wr => ∃ (k n : Nat), k ≤ T.acts.length ∧ i = .int .i64 k ∧ s = .int .i64 (n : Int) ∧ n ≤ 27000000 + 300 * 27000300 ∧ Hid (n = n1 + ((T.L.acts.take k).map fun a => sizeL a.out).sum) ∧ Hid (St w0 wr (fun W => TabBox w.heap.size cs W ∧ F W))) (fun _ i _ => T.acts.length - (intOf i).toNat)
  case atStart => exact ⟨0, n1, by omega, rfl, rfl, by omega, Lib.hid (by simp), HK⟩
  case round =>
  clear HK
  obtain ⟨k, n, hk, rfl, rfl, hn, HN, HK⟩ := hrel
  have p7 := HK.out.now.1.cell1 h257
  by_cases hlt : k < T.acts.length
  · obtain ⟨b, off, q, hA, hx, hw, r0, r1, r2⟩ := (HT.out _ HK.out.now.2).acts.at_ hlt
    rw [hA] at p7
    have hxl := actsL_at hx
    obtain ⟨m, hm⟩ : ∃ m : Nat, sizeL q.o.L = m := ⟨_, rfl⟩
    have HM := Lib.hid hm
    have HN2 : Hid (n + m = n1 + ((T.L.acts.take (k + 1)).map fun a => sizeL a.out).sum) := Lib.hid (by rw [sum_take (fun a => sizeL a.out) hxl, ← hm]; have := HN.out; show n + _ = n1 + (_ + sizeL q.o.L); omega)
    have hm1 : m ≤ 27000300 := by rw [← hm]; exact sizeL_le _
    have hb : n + m ≤ 27000000 + 300 * 27000300 := by
      have h1 := sum_take_le (fun a : ActL => sizeL a.out) 27000300 300 (fun _ => sizeL_le _) T.L.acts (by rw [actsL_len]; omega) (k + 1)
      have h2 := HN2.out; omega
    have HKo := Lib.hid (HK.out.add (Below.refl _ _) (G := OutW q.o) (fun W hW => OutW.stays _ _ _ hw.2 hW))
    clear hx hw hxl hm r0 r1 hA
    go_wp2_with fail
    refine (size_st HKo q.o (fun _ h => h.1) m HM).mono ?_
    rintro e w5 ⟨rfl, HK5⟩
    go_wp2_with fail
    exact ⟨⟨k + 1, n + m, by omega, by go_num, by go_num, hb, HN2, Lib.hid (HK5.out.weaken fun _ h => h.2)⟩, by simp [intOf]; omega⟩
  obtain rfl : k = T.acts.length := by omega
  have hd : decide (T.acts.length < T.acts.length) = false := by simp
  have HN2 : Hid (n = n1 + (T.L.acts.map fun a => sizeL a.out).sum) := Lib.hid (by
    have h1 := HN.out
    rwa [← actsL_len, List.take_length] at h1)
  have hn2 := hn
  obtain ⟨n2, hnn⟩ : ∃ n2, n = n2 := ⟨_, rfl⟩
  rw [hnn] at hn2 HN2 ⊢
  clear HN hn hnn n
  go_wp2_with fail
  clear hd p7
  go_loopw [3, 6] (fun s i wr => ∃ (k n : Nat), k ≤ T.es.length ∧ i = .int .i64 k ∧ s = .int .i64 (n : Int) ∧ n ≤ 27000000 + 600 * 27000300 ∧ Hid (n = n2 + ((T.L.ends.take k).map sizeL).sum) ∧ Hid (St w0 wr (fun W => TabBox w.heap.size cs W ∧ F W))) (fun _ i _ => T.es.length - (intOf i).toNat)
  case atStart => exact ⟨0, n2, by omega, rfl, rfl, by omega, Lib.hid (by simp), HK⟩
  case round =>
  clear HK
  obtain ⟨k, n, hk, rfl, rfl, hn, HN, HK⟩ := hrel
  have p8 := HK.out.now.1.cell1 h258
  by_cases hlt : k < T.es.length
  · obtain ⟨b, off, q, hA, hx, hw, r0⟩ := (HT.out _ HK.out.now.2).ends.at_ hlt
    rw [hA] at p8
    have hxl := endsL_at hx
    obtain ⟨m, hm⟩ : ∃ m : Nat, sizeL q.L = m := ⟨_, rfl⟩
    have HM := Lib.hid hm
    have HN2 : Hid (n + m = n2 + ((T.L.ends.take (k + 1)).map sizeL).sum) := Lib.hid (by rw [sum_take sizeL hxl, ← hm]; have := HN.out; omega)
    have hm1 : m ≤ 27000300 := by rw [← hm]; exact sizeL_le _
    have hb : n + m ≤ 27000000 + 600 * 27000300 := by
      have h1 := sum_take_le sizeL 27000300 300 sizeL_le T.L.ends (by rw [endsL_len]; omega) (k + 1)
      have h2 := HN2.out; omega
    have HKo := Lib.hid (HK.out.add (Below.refl _ _) (G := OutW q) (fun W hW => OutW.stays _ _ _ hw hW))
    clear hx hw hxl hm hA
    go_wp2_with fail
    refine (size_st HKo q (fun _ h => h.1) m HM).mono ?_
    rintro e w5 ⟨rfl, HK5⟩
    go_wp2_with fail
    exact ⟨⟨k + 1, n + m, by omega, by go_num, by go_num, hb, HN2, Lib.hid (HK5.out.weaken fun _ h => h.2)⟩, by simp [intOf]; omega⟩
  obtain rfl : k = T.es.length := by omega
  have hd : decide (T.es.length < T.es.length) = false := by simp
  have HN3 : Hid (n = sumT T.L) := Lib.hid (by
    have h1 := HN.out
    rw [← endsL_len, List.take_length] at h1
    rw [h1, HN2.out, HN1.out]; rfl)
  by_cases h8 : n ≤ 80000
  · have h8' : decide ((n : Int) ≤ 80000) = true := decide_eq_true (by omega)
    obtain rfl := pB_t hv ⟨by rw [nodesL_len]; exact hl1, by rw [actsL_len]; exact hl2, by rw [endsL_len]; exact hl3, by rw [← HN3.out]; exact h8⟩
    clear h8
    go_wp2_with fail
    go_ret
    exact ⟨rfl, HRES.out _ HK⟩
  · have h8' : decide ((n : Int) ≤ 80000) = false := decide_eq_false (by omega)
    obtain rfl := pB_f hv (fun H => h8 (by rw [HN3.out]; exact H.2.2.2))
    clear h8
    go_wp2_with fail
    go_ret
    exact ⟨rfl, HRES.out _ HK⟩
end
end Go.Proofs.Yticfbbigljgjdaa
