/- Contracts of minterm.Row and minterm.Least. Condition: the lists at hand are known, at most 256. -/
import Derived.Test.YtdaagdohhnhbdaaSplit
import Derived.Laws.OwnMore
namespace Go.Proofs.Ytdaagdohhnhbdaa
open Go.RowKit
set_option linter.unusedVariables false
set_option linter.unusedSimpArgs false

theorem infoU8 : (Try.prog.info? 5).map (fun i => (i.zero, i.size, i.bytes)) = some (some (.int .u8 0), 1, 1) := by kernel_rfl
theorem infoI64 : (Try.prog.info? 3).map (fun i => (i.zero, i.size, i.bytes)) = some (some (.int .i64 0), 1, 8) := by kernel_rfl
theorem classI_bd (L : List (List Sp)) (x : Int) : -1 ≤ classI L x ∧ (classI L x < 0 ∨ classI L x < L.length) := by
  unfold classI
  split
  · rename_i h
    have : L.findIdx (fun l => hasB l x) < L.length := by
      rw [List.findIdx_lt_length]
      simpa using h
    omega
  · omega
/-- the least number of a list's set, or -1 -/
noncomputable def normL (l : List Sp) : List Sp := Classical.choose (rep_norm l)
theorem normL_rep (l : List Sp) : Hid (Rep (normL l) (Mem l)) := Classical.choose_spec (rep_norm l)
noncomputable def leastI (l : List Sp) : Int := if optB (nthS (normL l) 0) then optD (nthS (normL l) 0) else -1
def classes (L : List (List Sp)) (n : Nat) : List Int := (List.range n).map fun i : Nat => classI L (i : Int)
theorem classes_succ (L : List (List Sp)) (n : Nat) : classes L (n + 1) = classes L n ++ [classI L n] := by unfold classes; rw [List.range_succ, List.map_append]; rfl

section
variable {w0 w : World} {F : World → Prop} {A : Option Addr} {L : List (Item Sp)}
def RetRow (w0 : World) (L : List (List Sp)) (F : World → Prop) (e : Ending) (w' : World) : Prop :=
  ((∃ i : Nat, i < 256 ∧ classI L i < 0) ∧ e = .returned (.tuple #[.slice none 0 0, .int .i64 1]) ∧ Hid (St w0 w' F)) ∨
  ((∀ i : Nat, i < 256 → 0 ≤ classI L i) ∧ ∃ B c, e = .returned (.tuple #[.slice B 256 c, .int .i64 0]) ∧ Hid (St w0 w' (fun W => Ints .u8 W B 256 (classes L 256) ∧ F W)))
theorem take_setI (xs : List Value) (k : Nat) (u : Value) (h : k < xs.length) : (xs.set k u).take (k + 1) = xs.take k ++ [u] := by
  rw [take_snoc? (x := u) (by rw [List.getElem?_set_self h]), List.take_set_of_le (Nat.le_refl k)]
set_option maxRecDepth 100000 in
set_option maxHeartbeats 16000000 in
theorem Row_st (hK : Hid (St w0 w F)) (hb : ∀ W, F W → LL A L W) (hn : L.length ≤ 256) (c : Nat) : Calls Try.prog 45 #[.slice A L.length c] w (RetRow w0 (bodies L) F) := by
  obtain ⟨i0, hi, hz0, hz1, hz2⟩ := info_parts infoU8
  have hn' : ¬ (256 : Int) < L.length := by omega
  go_enter Try.func45, Try.ntmps45
  go_wp2_with (at_make; go_must (refine wpList_make_full _ rfl _ _ 58 rfl w.heap.size 5 i0 (.int .u8 0) 1 Try.underlying58 hi hz0 hz1 _ _ _ _ 256 rfl rfl rfl rfl (by rw [hz2]; omega) (by unfold maxLen; omega) (Nat.le_refl _) ?c3))
  case c3 =>
  intro w1 hown hg
  have HB1 := Lib.hid ((Below.refl w.heap.size w).grown hg (Nat.le_refl _) (by intro k hk; cases hk))
  have HO1 := Lib.hid hown
  clear hown hg hi hz0 hz1 hz2
  go_wp2_with fail
  go_loopw [13] (fun iv wr => ∃ (k : Nat) (xs : List Value), k ≤ 256 ∧ iv = .int .i64 k ∧ Hid (wr.ownsRow w.heap.size 5 1 (.slice (some ⟨w.heap.size, 0, none⟩) 256 256) 256 xs) ∧ Hid (xs.take k = (classes (bodies L) k).map (Value.int .u8)) ∧ Hid (∀ i : Nat, i < k → 0 ≤ classI (bodies L) i) ∧ Hid (Below w.heap.size w wr)) (fun iv _ => 256 - (intOf iv).toNat)
  case atStart => exact ⟨0, _, by omega, rfl, HO1, Lib.hid (by simp [classes]), Lib.hid (fun i hi => by omega), HB1⟩
  case round =>
  obtain ⟨k, xs, hk, rfl, HO, HX, HP, HB⟩ := hrel
  by_cases hlt : k < 256
  · have hlt' : (k : Int) < 256 := by omega
    obtain ⟨v, hv⟩ : ∃ v, classI (bodies L) (k : Int) = v := ⟨_, rfl⟩
    have hvb := classI_bd (bodies L) (k : Int)
    rw [hv, bodies_length] at hvb
    obtain ⟨hv0, hv1⟩ := hvb
    have HV := Lib.hid hv
    have HS := Lib.hid ((hK.out.step HB.out).add (Below.refl _ _) (G := fun W => W.ownsRow w.heap.size 5 1 (.slice (some ⟨w.heap.size, 0, none⟩) 256 256) 256 xs ∧ Below w.heap.size w W) (fun W hW => ⟨own_below HO.out hW, below_to HB.out hW⟩))
    clear hv
    go_wp2_with fail
    refine (Class_st HS (fun _ h => hb _ h.2) (by omega) _ (k : Int) HV.out).mono ?_
    rintro e w2 ⟨rfl, HS2⟩
    by_cases hneg : v < 0
    · have HSF : Hid (St w0 w2 F) := Lib.hid (HS2.out.weaken fun W h => h.2)
      go_wp2_with fail
      go_ret2
      exact .inl ⟨⟨k, hlt, by rw [HV.out]; exact hneg⟩, rfl, HSF⟩
    · have hneg' : ¬ v < 0 := hneg
      obtain ⟨hrow2, hbel2⟩ := HS2.out.now.1
      have hll : k < xs.length := by have := hrow2.1; omega
      have hd : w2.cell? ⟨w.heap.size, k, none⟩ = some (xs[k]) := by rw [hrow2.cellAt k (by omega), List.getElem?_eq_getElem hll]
      have hf := hrow2.frozenAt k
      obtain ⟨hown2, hg2⟩ := hrow2.stored k (.int .u8 v)
      have hvm : IntKind.u8.wrap v = v := by show v % 256 = v; omega
      have HO2 := Lib.hid hown2
      have HB2 := Lib.hid (hbel2.setCell (p := ⟨w.heap.size, k, none⟩) (Nat.le_refl _) (.int .u8 v))
      have HX2 : Hid ((xs.set k (.int .u8 v)).take (k + 1) = (classes (bodies L) (k + 1)).map (Value.int .u8)) := by
        unfold Hid
        rw [take_setI _ _ _ hll, HX.out, classes_succ, List.map_append, HV.out]; rfl
      have HP2 : Hid (∀ i : Nat, i < k + 1 → 0 ≤ classI (bodies L) i) := Lib.hid fun i hi => by
        by_cases e : i = k
        · subst e; rw [HV.out]; omega
        · exact HP.out i (by omega)
      generalize xs[k] = u0 at hd
      clear hown2 hg2 hbel2 hll hrow2
      go_wp2_with fail
      exact ⟨⟨k + 1, _, by omega, by go_num, HO2, HX2, HP2, HB2⟩, by simp [intOf]; omega⟩
  · obtain rfl : k = 256 := by omega
    go_wp2_with fail
    go_ret2
    have e : xs = (classes (bodies L) 256).map (Value.int .u8) := by
      rw [← HX.out, List.take_of_length_le (by have := HO.out.1; omega)]
    refine .inr ⟨HP.out, _, 256, rfl, Lib.hid ((hK.out.add HB.out (fun W hW => ?_)))⟩
    have := HO.out
    rw [e] at this
    exact Sl.below (B := 0) (Sl.of_own this) hW

set_option maxRecDepth 100000 in
set_option maxHeartbeats 16000000 in
theorem Least_st (hK : Hid (St w0 w F)) (hb : ∀ W, F W → LL A L W) (hn : L.length < 1048576) (c : Nat) : Calls Try.prog 47 #[.slice A L.length c] w (fun e w' => ∃ B c', e = .returned (.slice B L.length c') ∧ Hid (St w0 w' (fun W => Ints .i64 W B L.length ((bodies L).map leastI) ∧ F W))) := by
  obtain ⟨i0, hi, hz0, hz1, hz2⟩ := info_parts infoI64
  go_enter Try.func47, Try.ntmps47
  go_wp2_with fail
  go_loopw [3, 10] (fun ov iv wr => ∃ (k : Nat) (Ao : Option Addr) (co : Nat), k ≤ L.length ∧ iv = .int .i64 k ∧ ov = .slice Ao k co ∧ Hid (wr.ownsRow w.heap.size 3 1 (.slice Ao k co) k ((((bodies L).take k).map leastI).map (Value.int .i64))) ∧ Hid (Below w.heap.size w wr)) (fun _ iv _ => L.length - (intOf iv).toNat)
  case atStart => exact ⟨0, none, 0, Nat.zero_le _, rfl, rfl, Lib.hid (World.ownsRow_nil _ _ _ _), Lib.hid (Below.refl _ _)⟩
  case round =>
  obtain ⟨k, Ao, co, hk, rfl, rfl, HO, HB⟩ := hrel
  have HS := Lib.hid (hK.out.step HB.out)
  by_cases hlt : k < L.length
  · obtain ⟨gb, off, ba, bc, b, hA, hx, hc, hwd⟩ := (hb _ HS.out.now).at_ hlt
    have hbk : (bodies L)[k]? = some b := by unfold bodies; rw [List.getElem?_map, hx]; rfl
    have HBK := Lib.hid hbk
    have HWD := Lib.hid hwd
    have HF := Lib.hid (First_any ba b.length bc b (normL b) wr hwd.sp hwd.wd hwd.len (normL_rep b).out)
    obtain ⟨x, hx'⟩ : ∃ x, optD (nthS (normL b) 0) = x := ⟨_, rfl⟩
    subst hA
    clear hx hwd hbk
    rcases hB : optB (nthS (normL b) 0) with _ | _
    · rw [hB, hx'] at HF
      have HLE : Hid (leastI b = -1) := by unfold Hid leastI; rw [hB]; rfl
      clear hB hx'
      go_wp2_with (first
        | (go_at_call 81
           refine HF.out.out.mono ?_
           rintro e w1 ⟨rfl, hb1⟩
           have HB1 := Lib.hid (below_to HB.out hb1)
           have HO1 := Lib.hid (own_below HO.out hb1))
        | (at_builtin; go_must (refine wpList_push rfl _ _ 62 rfl w.heap.size 3 i0 _ 1 8 Try.underlying62 hi hz0 hz1 hz2 rfl (by decide) HO1.out rfl [.int .i64 (-1)] _ (by first | rfl | (simp; rfl) | simp) rfl (by intro u hu; simp at hu; subst hu; rfl) (by omega) (by omega) HB1.out.size ?_); intro v' w2 hown2 hg2 _))
      obtain ⟨A2, c2, hv2⟩ := own_shape hown2
      subst hv2
      have HB2 := Lib.hid (below_pushed HB1.out HO1.out (Nat.le_refl _) HB1.out.size hg2)
      have HO2 : Hid (w2.ownsRow w.heap.size 3 1 (.slice A2 (k + 1) c2) (k + 1) ((((bodies L).take (k + 1)).map leastI).map (Value.int .i64))) := by
        unfold Hid
        rw [take_snoc? HBK.out, List.map_append, List.map_append]
        simp only [List.map_cons, List.map_nil, HLE.out]
        exact hown2
      clear hown2 hg2
      go_wp2_with fail
      exact ⟨⟨k + 1, A2, c2, by omega, by go_num, rfl, HO2, HB2⟩, by simp [intOf]; omega⟩
    · rw [hB, hx'] at HF
      have HLE : Hid (leastI b = x) := by unfold Hid leastI; rw [hB, hx']; rfl
      clear hB hx'
      go_wp2_with (first
        | (go_at_call 81
           refine HF.out.out.mono ?_
           rintro e w1 ⟨rfl, hb1⟩
           have HB1 := Lib.hid (below_to HB.out hb1)
           have HO1 := Lib.hid (own_below HO.out hb1))
        | (at_builtin; go_must (refine wpList_push rfl _ _ 62 rfl w.heap.size 3 i0 _ 1 8 Try.underlying62 hi hz0 hz1 hz2 rfl (by decide) HO1.out rfl [.int .i64 x] _ (by first | rfl | (simp; rfl) | simp) rfl (by intro u hu; simp at hu; subst hu; rfl) (by omega) (by omega) HB1.out.size ?_); intro v' w2 hown2 hg2 _))
      obtain ⟨A2, c2, hv2⟩ := own_shape hown2
      subst hv2
      have HB2 := Lib.hid (below_pushed HB1.out HO1.out (Nat.le_refl _) HB1.out.size hg2)
      have HO2 : Hid (w2.ownsRow w.heap.size 3 1 (.slice A2 (k + 1) c2) (k + 1) ((((bodies L).take (k + 1)).map leastI).map (Value.int .i64))) := by
        unfold Hid
        rw [take_snoc? HBK.out, List.map_append, List.map_append]
        simp only [List.map_cons, List.map_nil, HLE.out]
        exact hown2
      clear hown2 hg2
      go_wp2_with fail
      exact ⟨⟨k + 1, A2, c2, by omega, by go_num, rfl, HO2, HB2⟩, by simp [intOf]; omega⟩
  · obtain rfl : k = L.length := by omega
    have hd : decide (L.length < L.length) = false := by simp
    go_wp2_with fail
    go_ret
    refine ⟨Ao, co, rfl, Lib.hid (hK.out.add HB.out (fun W hW => ?_))⟩
    have h := HO.out
    rw [← bodies_length (L := L), List.take_length, bodies_length] at h
    exact Sl.below (B := 0) (Sl.of_own h) hW
end
end Go.Proofs.Ytdaagdohhnhbdaa
