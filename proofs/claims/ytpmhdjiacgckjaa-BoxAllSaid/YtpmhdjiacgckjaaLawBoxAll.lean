/- umlautlaw12.BoxAll: the walk. Of guards of not too many windows the boxes have just those windows whose values are in the set, each in one box. Condition: none beyond the row's own. -/
import Derived.Test.YtpmhdjiacgckjaaM24
import Derived.Test.YtpmhdjiacgckjaaM25
namespace Go.Proofs.Ytpmhdjiacgckjaa
open Go.RowKit
set_option linter.unusedVariables false
set_option linter.unusedSimpArgs false
theorem winTo_pos {L : List (List Sp)} (h : 1 ≤ winTo L) : ∀ a ∈ L, symL a ≠ [] := by
  intro a ha he
  have key : ∀ (M : List (List Sp)), M.foldl (fun n a => min (n * min (cnt (symL a)) 1001) 1001) 0 = 0 := by
    intro M
    induction M with
    | nil => rfl
    | cons b M ih => rw [List.foldl_cons, Int.zero_mul]; exact ih
  obtain ⟨X, Y, rfl⟩ := List.append_of_mem ha
  unfold winTo at h
  rw [List.foldl_append, List.foldl_cons, he] at h
  have e : ∀ n : Int, min (n * min (cnt []) 1001) 1001 = 0 := fun n => by
    have : (cnt [] : Int) = 0 := cnt_nil
    rw [this]
    have : min (0 : Int) 1001 = 0 := by omega
    rw [this, Int.mul_zero]; omega
  rw [e, key] at h
  omega
theorem win_hit {L : List (List Sp)} (hne : ∀ a ∈ L, symL a ≠ []) (k : Int) (hk : 0 ≤ k) : (∀ s ∈ L.map symL, SymG s) ∧ hitM L (winL (L.map symL) k) := by
  have hs : ∀ s ∈ L.map symL, SymG s := fun s hs => by
    obtain ⟨a, ha, rfl⟩ := List.mem_map.1 hs
    exact ⟨(sym_rep a).1, hne a ha, fun x hx => (mem_sym x).1 (((sym_rep a).2 x).1 hx).2⟩
  refine ⟨hs, ?_⟩
  rw [hitM_iff, winL_length, List.length_map]
  refine ⟨rfl, fun i s x hi hx => ?_⟩
  exact (((sym_rep s).2 x).1 (winL_in hs hk i (symL s) x (by rw [List.getElem?_map, hi]; rfl) hx)).1
set_option maxRecDepth 100000 in
set_option maxHeartbeats 32000000 in
theorem BoxAll_walk (b d t u s : Int) (pa : Option Addr) (pc : Nat) (ps : List PartL) (A : Option Addr) (n c : Nat) (L : List Lst3) (G : Option Addr) (m cg : Nat) (gl : List Sp) (w : World)
    (hI : I64 b ∧ I64 d ∧ I64 t ∧ I64 u ∧ I64 s) (hP : PartsAt pa ps w) (hs : SssIn w A n L) (hsg : Spans w G m gl) (hwg : SpW gl) (hng : m ≤ 9223372036854775807) :
    Calls Try.prog 4 #[.agg #[.int .i64 b, .int .i64 d, .int .i64 t, .int .i64 u, .int .i64 s, .slice pa ps.length pc], .slice A n c, .slice G m cg] w fun e w' => e = .returned (.bool true) ∧ Below w.heap.size w w' := by
  obtain rfl := hsg.len
  obtain rfl := hs.1.len
  have HK0 : Hid (St w w (fun V => PartsAt pa ps V ∧ SssIn V A L.length L ∧ Spans V G gl.length gl)) := Lib.hid (St.start fun V hV => ⟨hP.below hV, ⟨Items.below hs.1 SpI.lasts hV, hs.2⟩, hsg.below hV⟩)
  have HK := St.box HK0 [.int .i64 b, .int .i64 d, .int .i64 t, .int .i64 u, .int .i64 s, .slice pa ps.length pc] 24
  have hps := hP.ln
  have HWG := Lib.hid hwg
  obtain ⟨q0, q1, q2, q3, q4, q5⟩ := HK.out.now.1.c6
  have HI := Lib.hid hI
  have HG8 := Lib.hid (great12_st HK (fun _ h => h.2.2.1) b d t u s pa ps.length pc hps c G gl.length cg)
  clear hI hP hs hsg hwg hng hps
  go_enter Try.func4, Try.ntmps4
  go_wp2_with fail
  refine HG8.out.mono ?_
  rintro e w1 ⟨v, rfl, HV, HK1⟩
  clear HG8 q0 q1 q2 q3 q4 q5
  have HKA : Hid (St w w1 (fun _ => True)) := Lib.hid (HK1.out.weaken fun _ _ => trivial)
  cases v with
  | true =>
    go_wp2_with fail
    refine (awake12_st HKA).mono ?_
    rintro e w9 ⟨rfl, HK9⟩
    go_wp2_with fail
    go_ret
    exact ⟨rfl, HK9.out.2⟩
  | false =>
  have HVA := Lib.hid (HV.out rfl)
  clear HV
  by_cases hl4 : 4 < L.length
  · have hl4' : (L.length : Int) > 4 := by omega
    go_wp2_with fail
    refine (awake12_st HKA).mono ?_
    rintro e w9 ⟨rfl, HK9⟩
    go_wp2_with fail
    go_ret
    exact ⟨rfl, HK9.out.2⟩
  have hl4' : ¬ (L.length : Int) > 4 := by omega
  obtain ⟨hg1, hg2, hg3, hg4⟩ := HVA.out
  have HK2 : Hid (St w w1 (fun V => F12 A L G gl pa ps V ∧ BoxC w.heap.size [.int .i64 b, .int .i64 d, .int .i64 t, .int .i64 u, .int .i64 s, .slice pa ps.length pc] V)) := Lib.hid (HK1.out.weaken fun V h => ⟨⟨h.2.1, ⟨⟨h.2.2.1.1.sl, fun i hi => SpI.lst (h.2.2.1.1.it i hi) (hg4 i hi)⟩, h.2.2.1.2⟩, ⟨h.2.2.2, HWG.out, by omega⟩⟩, h.1⟩)
  have HG4 := Lib.hid hg4
  clear HK HK0 HK1 hg4 hg1 hg2
  obtain ⟨nw, hnw⟩ : ∃ z, winTo (bodies L) = z := ⟨_, rfl⟩
  have HWS := Lib.hid (Windows_st HK2 (fun _ h => h.1.2.1) (fun i hi => by have := HG4.out i hi; omega) (by omega) c)
  rw [hnw] at HWS
  clear hnw
  go_wp2_with fail
  refine HWS.out.mono ?_
  rintro e w1b ⟨rfl, HK3⟩
  clear HWS HKA
  have HKA : Hid (St w w1b (fun _ => True)) := Lib.hid (HK3.out.weaken fun _ _ => trivial)
  by_cases hnb : 1000 < nw
  · have hnb' : nw > 1000 := hnb
    go_wp2_with fail
    refine (awake12_st HKA).mono ?_
    rintro e w9 ⟨rfl, HK9⟩
    go_wp2_with fail
    go_ret
    exact ⟨rfl, HK9.out.2⟩
  have hnb' : ¬ nw > 1000 := hnb
  obtain ⟨q0, q1, q2, q3, q4, q5⟩ := HK3.out.now.2.c6
  obtain ⟨v2, hv2⟩ : ∃ v, pB (BoxOk (L.length : Int) ⟨b, d, t, u, s, ps⟩) = v := ⟨_, rfl⟩
  have HV2 := Lib.hid hv2
  clear hv2 HK2
  go_wp2_with fail
  refine (lright_st HK3 (fun _ h => h.1.1) b d t u s pc (L.length : Int) v2 HV2).mono ?_
  rintro e w3 ⟨rfl, HK4⟩
  clear q0 q1 q2 q3 q4 q5 HKA HK3
  have HKA : Hid (St w w3 (fun _ => True)) := Lib.hid (HK4.out.weaken fun _ _ => trivial)
  cases v2 with
  | false =>
    go_wp2_with fail
    refine (awake12_st HKA).mono ?_
    rintro e w9 ⟨rfl, HK9⟩
    go_wp2_with fail
    go_ret
    exact ⟨rfl, HK9.out.2⟩
  | true =>
  have HOK : Hid (BoxOk ((bodies L).length : Int) ⟨b, d, t, u, s, ps⟩) := Lib.hid (by rw [bodies_length]; exact pB_iff.1 HV2.out)
  obtain ⟨q0, q1, q2, q3, q4, q5⟩ := HK4.out.now.2.c6
  obtain ⟨r, hr⟩ : ∃ r, boxesR ⟨b, d, t, u, s, ps⟩ (bodies L) gl = r := ⟨_, rfl⟩
  have hbx := Boxes_st HK4 (fun _ h => h.1.1) (fun _ h => h.1.2.1) (fun _ h => h.1.2.2) b d t u s HI.out.1 HI.out.2.2.2.2 pc c cg (by omega)
  rw [hr] at hbx
  have HBX := Lib.hid hbx
  have HR := Lib.hid hr
  clear hbx hr HKA
  go_wp2_with fail
  refine HBX.out.mono ?_
  rintro e w4 ⟨A2, R, c2, rfl, hR, HK5⟩
  clear HBX q0 q1 q2 q3 q4 q5
  have HRR := Lib.hid hR
  clear hR
  rcases boxes_cases (T := ⟨b, d, t, u, s, ps⟩) (Gs := bodies L) (gl := gl) with hq | hq | ⟨Bx, hq⟩
  · exact absurd HOK.out (boxes_arg.1 (by rw [hq]))
  · have hr1 : r = (4, []) := by rw [← HR.out]; exact hq
    have HNC : Hid (¬ CalmOk ps.length L) := Lib.hid fun h => by
      obtain ⟨B2, h2, _⟩ := boxes_calm (gl := gl) HOK.out (h.imp (fun h => ⟨h.1, fun g hg => by obtain ⟨i, hi, rfl⟩ := List.mem_map.1 hg; exact h.2 i hi⟩) id)
      rw [h2] at hq; cases hq
    subst hr1
    obtain ⟨q0, q1, q2, q3, q4, q5⟩ := HK5.out.now.2.2.c6
    have HCA := Lib.hid (calm_st HK5 (fun _ h => h.2.1.2.1) HG4.out b d t u s pa ps.length pc c)
    clear hq
    go_wp2_with fail
    refine HCA.out.mono ?_
    rintro e w5 ⟨v3, rfl, HV3, HK6⟩
    obtain rfl : v3 = false := by
      cases v3 with
      | false => rfl
      | true => exact absurd (HV3.out rfl) HNC.out
    have HKA : Hid (St w w5 (fun _ => True)) := Lib.hid (HK6.out.weaken fun _ _ => trivial)
    clear HCA q0 q1 q2 q3 q4 q5
    go_wp2_with fail
    refine (awake12_st HKA).mono ?_
    rintro e w9 ⟨rfl, HK9⟩
    go_wp2_with fail
    go_ret
    exact ⟨rfl, HK9.out.2⟩
  have hr1 : r = (0, Bx) := by rw [← HR.out]; exact hq
  have HSA : Hid (BoxSaid ⟨b, d, t, u, s, ps⟩ (bodies L) gl Bx) := Lib.hid (boxes_said HOK.out hq)
  subst hr1
  have HB2 : Hid (bodies2 R = Bx) := HRR
  have hRl : R.length ≤ 4096 := by have h := HSA.out.few; rw [← HB2.out, bodies2_length] at h; exact h
  have HPS := Lib.hid (Plains_st HK5 (fun _ h => h.2.1.2.1) HG4.out (by omega) c)
  clear hq HK4
  go_wp2_with fail
  refine HPS.out.mono ?_
  rintro e w6 ⟨A3, L3, c3, rfl, hL3, HK6⟩
  have HL3 := Lib.hid hL3
  have HLN : Hid (L3.length = L.length) := Lib.hid (by have h := congrArg List.length hL3; rw [bodies_length, List.length_map, bodies_length] at h; exact h)
  have HL20 : Hid (∀ i ∈ L3, i.2.2.length ≤ 20) := Lib.hid fun i hi => by
    have h1 : i.2.2 ∈ bodies L3 := List.mem_map.2 ⟨i, hi, rfl⟩
    rw [hL3] at h1
    obtain ⟨g, hg, he⟩ := List.mem_map.1 h1
    obtain ⟨j, hj, rfl⟩ := List.mem_map.1 hg
    rw [← he]
    exact Nat.le_trans (meet_len (sym_rep j.2.2)) (HG4.out j hj)
  clear hL3 HPS
  obtain ⟨n2, hn2⟩ : ∃ z, winTo (bodies L3) = z := ⟨_, rfl⟩
  have hnb2 := winTo_bd (bodies L3)
  rw [hn2] at hnb2
  obtain ⟨N, hN⟩ := Int.eq_ofNat_of_zero_le hnb2.1
  subst hN
  have HNE : Hid (1 ≤ N → ∀ a ∈ bodies L, symL a ≠ []) := Lib.hid fun h a ha he => by
    have h1 := winTo_pos (L := bodies L3) (by rw [hn2]; omega) (symL a) (by rw [HL3.out]; exact List.mem_map.2 ⟨a, ha, rfl⟩)
    refine h1 ?_
    have h2 := sym_rep (symL a)
    rw [he] at h2 ⊢
    exact Rep.unique h2 (T := fun _ => False) ⟨trivial, fun x => Iff.rfl⟩ (fun x => ⟨fun h => h.1.2.2, fun h => h.elim⟩)
  have HWS := Lib.hid (Windows_st HK6 (fun _ h => h.1) (fun i hi => by have := HL20.out i hi; omega) (by rw [HLN.out]; omega) c3)
  rw [hn2] at HWS
  clear hn2 HK5
  go_wp2_with fail
  refine HWS.out.mono ?_
  rintro e w7 ⟨rfl, HK7⟩
  clear HWS HK6
  go_wp2_with fail
  go_loopw [11] (fun iv wr => ∃ k : Nat, k ≤ N ∧ iv = .int .i64 k ∧ Hid (St w wr (fun V => LLx A3 L3 V ∧ RowsX A2 R V ∧ F12 A L G gl pa ps V ∧ BoxC w.heap.size [.int .i64 b, .int .i64 d, .int .i64 t, .int .i64 u, .int .i64 s, .slice pa ps.length pc] V))) (fun iv _ => N - (intOf iv).toNat)
  case atStart => exact ⟨0, Nat.zero_le _, rfl, HK7⟩
  case round =>
  clear HK7
  obtain ⟨k, hk, rfl, HK8⟩ := hrel
  by_cases hlt : k < N
  · obtain ⟨ws, hws⟩ : ∃ z, winL (bodies L3) k = z := ⟨_, rfl⟩
    have HWH := win_hit (HNE.out (by omega)) (k : Int) (by omega)
    rw [← HL3.out, hws] at HWH
    have HSY : Hid (∀ s ∈ bodies L3, SymG s) := Lib.hid HWH.1
    have HIT : Hid (hitM (bodies L) ws) := Lib.hid HWH.2
    have hwn := Window_st HK8 (fun _ h => h.1) HSY (Lib.hid fun i hi => by have := HL20.out i hi; omega) (by rw [HLN.out]; omega) c3 (k : Int) (by omega) (by omega)
    rw [hws] at hwn
    have HWN := Lib.hid hwn
    have hkN : (k : Int) < (N : Int) := by omega
    clear HWH hws hwn
    go_wp2_with fail
    refine HWN.out.mono ?_
    rintro e w8 ⟨B4, rfl, HK9⟩
    clear HWN HK8
    obtain ⟨q0, q1, q2, q3, q4, q5⟩ := HK9.out.now.2.2.2.2.c6
    obtain ⟨ok, hok⟩ : ∃ v, pB (ValOk ⟨b, d, t, u, s, ps⟩ ws) = v := ⟨_, rfl⟩
    obtain ⟨z, hz⟩ : ∃ z, (if ok = true then valN ⟨b, d, t, u, s, ps⟩ ws else 0) = z := ⟨_, rfl⟩
    have HOKV := Lib.hid hok
    have HZ := Lib.hid hz
    have HNU : Hid (NumsOk ⟨b, d, t, u, s, ps⟩) := Lib.hid HOK.out.2.1
    clear hok hz
    go_wp2_with fail
    refine (rTVal_st HK9 (fun _ h => h.2.2.2.1.1) b d t u s pc (fun _ h => h.1) ws.length HNU ok HOKV z HZ).mono ?_
    rintro e w9 ⟨rfl, HK10⟩
    clear q0 q1 q2 q3 q4 q5 HK9
    go_wp2_with fail
    go_loopw [15, 16] (fun nv iv wr => ∃ (j m : Nat), j ≤ R.length ∧ iv = .int .i64 j ∧ nv = .int .i64 m ∧ m ≤ j ∧ Hid (cntB ((bodies2 R).take j) ws = m) ∧ Hid (St w wr (fun V => RunesAt B4 ws V ∧ LLx A3 L3 V ∧ RowsX A2 R V ∧ F12 A L G gl pa ps V ∧ BoxC w.heap.size [.int .i64 b, .int .i64 d, .int .i64 t, .int .i64 u, .int .i64 s, .slice pa ps.length pc] V))) (fun _ iv _ => R.length - (intOf iv).toNat)
    case atStart => exact ⟨0, 0, Nat.zero_le _, rfl, rfl, Nat.le_refl _, Lib.hid (cntB_nil ws), HK10⟩
    case round =>
    clear HK10
    obtain ⟨j, m, hj, rfl, rfl, hmj, HCN, HK11⟩ := hrel
    by_cases hjR : j < R.length
    · obtain ⟨rb, ro, ba, bc, bx, rfl, hRi, hbi, hcr, _⟩ := HK11.out.now.2.2.1.at_ hjR
      obtain ⟨v, hv⟩ : ∃ v, pB (hitM (bodies bx) ws) = v := ⟨_, rfl⟩
      have HVI := Lib.hid hv
      have HRI := Lib.hid hRi
      have HC1 : Hid (cntB ((bodies2 R).take (j + 1)) ws = m + if v = true then 1 else 0) := Lib.hid (by rw [take_snoc? hbi, cntB_snoc _ _ _ v hv, HCN.out])
      clear hv hRi hbi
      cases v with
      | true =>
        go_wp2_with (go_at_call 13; refine (In_st HK11 (fun _ h => (Items.cell h.2.2.1.1 HRI.out).2) (fun _ h => h.1) bc ws.length true HVI).mono ?_; rintro e w10 ⟨rfl, HK12⟩)
        exact ⟨⟨j + 1, m + 1, by omega, by go_num, by go_num, by omega, Lib.hid (by rw [HC1.out]; rfl), HK12⟩, by simp [intOf]; omega⟩
      | false =>
        go_wp2_with (go_at_call 13; refine (In_st HK11 (fun _ h => (Items.cell h.2.2.1.1 HRI.out).2) (fun _ h => h.1) bc ws.length false HVI).mono ?_; rintro e w10 ⟨rfl, HK12⟩)
        exact ⟨⟨j + 1, m, by omega, by go_num, by go_num, by omega, Lib.hid (by rw [HC1.out]; rfl), HK12⟩, by simp [intOf]; omega⟩
    · have hjl : j = R.length := by omega
      subst hjl
      have hdd : decide ((R.length : Int) < (R.length : Int)) = false := by simp
      have HCN2 : Hid (cntB Bx ws = m) := Lib.hid (by have h := HCN.out; rw [List.take_of_length_le (by rw [bodies2_length]; exact Nat.le_refl _), HB2.out] at h; exact h)
      have HK12 : Hid (St w wr (fun V => LLx A3 L3 V ∧ RowsX A2 R V ∧ F12 A L G gl pa ps V ∧ BoxC w.heap.size [.int .i64 b, .int .i64 d, .int .i64 t, .int .i64 u, .int .i64 s, .slice pa ps.length pc] V)) := Lib.hid (HK11.out.weaken fun _ h => h.2)
      clear hjR hj HK11
      cases ok with
      | false =>
        obtain rfl : m = 0 := by rw [← HCN2.out]; exact (HSA.out.cnt ws).2 (fun h => by have := pB_true h.2.1; rw [HOKV.out] at this; cases this)
        go_wp2_with fail
        exact ⟨⟨k + 1, by omega, by go_num, HK12⟩, by simp [intOf]; omega⟩
      | true =>
        obtain ⟨v, hv⟩ : ∃ v, hasB gl z = v := ⟨_, rfl⟩
        have hzv : valN ⟨b, d, t, u, s, ps⟩ ws = z := by have h := HZ.out; rw [if_pos rfl] at h; exact h
        have hvm : v = true ↔ Mem gl (valN ⟨b, d, t, u, s, ps⟩ ws) := by rw [hzv, ← hv]; exact hasB_iff gl z
        cases v with
        | true =>
          obtain rfl : m = 1 := by rw [← HCN2.out]; exact (HSA.out.cnt ws).1 ⟨HIT.out, pB_iff.1 HOKV.out, hvm.1 rfl⟩
          have HVV := Lib.hid hv
          clear hv hzv hvm
          go_wp2_with (go_at_call 15; refine (rHas_st HK12 (fun _ h => h.2.2.1.2.2) cg z HVV.out).mono ?_; rintro e w10 ⟨rfl, HKX⟩)
          exact ⟨⟨k + 1, by omega, by go_num, HKX⟩, by simp [intOf]; omega⟩
        | false =>
          obtain rfl : m = 0 := by rw [← HCN2.out]; exact (HSA.out.cnt ws).2 (fun h => by have := hvm.2 h.2.2; cases this)
          have HVV := Lib.hid hv
          clear hv hzv hvm
          go_wp2_with (go_at_call 15; refine (rHas_st HK12 (fun _ h => h.2.2.1.2.2) cg z HVV.out).mono ?_; rintro e w10 ⟨rfl, HKX⟩)
          exact ⟨⟨k + 1, by omega, by go_num, HKX⟩, by simp [intOf]; omega⟩
  · have hkn : k = N := by omega
    subst hkn
    have hdd : decide ((k : Int) < (k : Int)) = false := by simp
    have HKA : Hid (St w wr (fun _ => True)) := Lib.hid (HK8.out.weaken fun _ _ => trivial)
    go_wp2_with fail
    refine (awake12_st HKA).mono ?_
    rintro e w9 ⟨rfl, HK9⟩
    go_wp2_with fail
    go_ret
    exact ⟨rfl, HK9.out.2⟩
end Go.Proofs.Ytpmhdjiacgckjaa
