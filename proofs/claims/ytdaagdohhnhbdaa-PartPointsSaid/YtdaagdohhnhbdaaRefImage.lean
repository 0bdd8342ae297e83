/- Contract of umlautref03.Image: the plain list of the values of a set's numbers. Condition: the list at hand is known, fewer than 2^20 spans. -/
import Derived.Test.YtdaagdohhnhbdaaRefPre
namespace Go.Proofs.Ytdaagdohhnhbdaa
open Go.RowKit Go.Shelf
set_option linter.unusedVariables false
set_option linter.unusedSimpArgs false

theorem infoBool : (Try.prog.info? 4).map (fun i => (i.zero, i.size, i.bytes)) = some (some (.bool false), 1, 1) := by kernel_rfl
/-- a row of bools of the call's own -/
def BRow (w : World) (g n : Nat) (bs : List Bool) : Prop := w.ownsRow g 4 1 (.slice (some ⟨g, 0, none⟩) n n) n (bs.map Value.bool)
theorem BRow.len {w : World} {g n : Nat} {bs : List Bool} (h : BRow w g n bs) : bs.length = n := by have := h.1; simpa using this
theorem BRow.at_ {w : World} {g n : Nat} {bs : List Bool} (h : BRow w g n bs) {j : Nat} {b : Bool} (hj : bs[j]? = some b) : w.cell? ⟨g, j, none⟩ = some (.bool b) := by
  have hl := h.len
  have hlt := (List.getElem?_eq_some_iff.1 hj).1
  have h' : w.ownsRow g 4 1 (.slice (some ⟨g, 0, none⟩) n n) n (bs.map Value.bool) := h
  rw [h'.cellAt j (by omega), List.getElem?_map, hj]; rfl
theorem BRow.grown {w w' : World} {g n : Nat} {bs : List Bool} {b : Option Nat} (h : BRow w g n bs) (hg : w.grownBy w' b) (hb : b ≠ some g) : BRow w' g n bs := by
  refine ⟨h.1, ?_⟩
  rcases h.2 with ⟨e, _⟩ | ⟨g', cap, cur, e, hg1, hg2, hg3⟩
  · cases e
  · injection e with e1 e2 e3
    injection e1 with e1
    injection e1 with e1
    subst e1
    exact .inr ⟨g, cap, cur, by rw [e3], hg1, (hg.block g (Array.getElem?_eq_some_iff.1 hg2).1 (fun e => hb e.symm)).trans hg2, hg3⟩
theorem BRow.below {w w' : World} {g n : Nat} {bs : List Bool} (h : BRow w g n bs) (hb : Below w.heap.size w w') : BRow w' g n bs := by
  refine ⟨h.1, ?_⟩
  rcases h.2 with ⟨e, _⟩ | ⟨g', cap, cur, e, hg1, hg2, hg3⟩
  · cases e
  · injection e with e1 e2 e3
    injection e1 with e1
    injection e1 with e1
    subst e1
    exact .inr ⟨g, cap, cur, by rw [e3], hg1, (hb.block g (Array.getElem?_eq_some_iff.1 hg2).1).trans hg2, hg3⟩
/-- a list of spans doesn't lie in a row of bools -/
theorem BRow.apart {w : World} {g n : Nat} {bs : List Bool} (h : BRow w g n bs) {b off : Nat} {x : Int} (hc : w.cell? ⟨b, off, none⟩ = some (.int .i64 x)) : b ≠ g := by
  intro e
  subst e
  rcases h.2 with ⟨e, _⟩ | ⟨g', cap, cur, e, hg1, hg2, hg3, hg4, hg5, hg6⟩
  · cases e
  · injection e with e1 e2 e3
    injection e1 with e1
    injection e1 with e1
    subst e1; subst e3
    have hl := h.len
    simp only [World.cell?, hg2] at hc
    simp at hc
    have hlt : off < cur.size := (Array.getElem?_eq_some_iff.1 hc).1
    have : (cur.toList.take (n * 1))[off]? = some (.int .i64 x) := by
      rw [List.getElem?_take_of_lt (by omega), Array.getElem?_toList]; exact hc
    rw [hg6, List.getElem?_map] at this
    cases hb : bs[off]? <;> rw [hb] at this <;> simp at this

section
variable {w0 w : World} {F : World → Prop} {A : Option Addr} {a0 r : List Sp}
set_option maxRecDepth 100000 in
set_option maxHeartbeats 16000000 in
theorem rImage_st (hK : Hid (St w0 w F)) (ha : ∀ W, F W → Lst A a0 W) (hn : a0.length < 1048576) (c : Nat) (a d t u : Int) (hr : Hid (Rep r (ImgS d t u a0))) :
    Calls Try.prog 33 #[.agg #[.int .i64 a, .int .i64 d, .int .i64 t, .int .i64 u], .slice A a0.length c] w (RetL w0 r F) := by
  have HK := St.pbox hK a d t u
  rcases hb : bitsB d t u with _ | _
  · obtain rfl := rep_none hr.out (fun x h => by have := h.1; rw [hb] at this; cases this)
    have HBB := Lib.hid hb
    clear hb
    go_enter Try.func33, Try.ntmps33
    go_wp2_with fail
    refine (rbits_st HK a d t u HBB.out).mono ?_
    rintro e w1 ⟨rfl, HK⟩
    go_wp2_with fail
    go_ret
    exact retL_nil (Lib.hid (HK.out.weaken fun W h => h.2))
  have HBB := Lib.hid hb
  obtain ⟨b1, b2, b3, b4, b5, b6, b7⟩ := (bitsB_iff _ _ _).1 hb
  obtain ⟨l, Rl⟩ := rep_norm a0
  have hll := Rl.out.len_le
  obtain ⟨T, hT⟩ : ∃ T, pw t = T := ⟨_, rfl⟩
  have HT := Lib.hid hT
  obtain ⟨D, hD⟩ : ∃ D, pw d = D := ⟨_, rfl⟩
  have HD := Lib.hid hD
  obtain ⟨U, hU⟩ : ∃ U, pw u = U := ⟨_, rfl⟩
  have HU := Lib.hid hU
  have hT1 : 1 ≤ T := by rw [← hT]; exact pw_pos t
  have hT2 : T ≤ 2097152 := by rw [← hT]; exact pw_le21 (by omega) b4
  have hD1 : 1 ≤ D := by rw [← hD]; exact pw_pos d
  have hU1 : 1 ≤ U := by rw [← hU]; exact pw_pos u
  have hU2 : U ≤ 1048576 := by rw [← hU]; exact pw_mono (n := 20) b5 b6
  have HTU : Hid (U = 1 ∨ T ≤ 64) := by
    unfold Hid
    rcases b7 with h | h
    · left; rw [← hU, h]; rfl
    · right; rw [← hT]; exact pw_le6 (by omega) h
  obtain ⟨N, hN⟩ : ∃ N : Nat, T + 1 = (N : Int) := ⟨(T + 1).toNat, by omega⟩
  have H1 : Hid (Pure Try.prog 72 #[.int .i64 d] (.int .i64 D)) := Lib.hid fun w => by rw [← hD]; exact Two_any d b1 (by omega) w
  have H2 : Hid (Pure Try.prog 72 #[.int .i64 t] (.int .i64 T)) := Lib.hid fun w => by rw [← hT]; exact Two_any t (by omega) b4 w
  have H3 : Hid (Pure Try.prog 72 #[.int .i64 u] (.int .i64 U)) := Lib.hid fun w => by rw [← hU]; exact Two_any u b5 (by omega) w
  have nD : ¬ D = 0 := by omega
  have nT : ¬ T = 0 := by omega
  obtain ⟨ib, hib, hbz0, hbz1, hbz2⟩ := info_parts infoBool
  clear hb b7 hT hD hU
  go_enter Try.func33, Try.ntmps33
  go_wp2_with fail
  refine (rbits_st HK a d t u HBB.out).mono ?_
  rintro e w1 ⟨rfl, HK⟩
  obtain ⟨hp0, hp1, hp2, hp3⟩ := HK.out.now.1
  go_wp2_with (first | (go_quiet ((first | (go_at_call_of 72 d; exact H1.out.quiet) | (go_at_call_of 72 t; exact H2.out.quiet) | (go_at_call_of 72 u; exact H3.out.quiet)))) | (at_make; go_must (refine wpList_make_full _ rfl _ _ 92 rfl (w1.heap.size) 4 ib (.bool false) 1 Try.underlying92 hib hbz0 hbz1 _ _ _ _ N rfl rfl rfl rfl ?c1 ?c2 (Nat.le_refl _) ?c3)))
  case c1 => rw [hbz2]; omega
  case c2 => unfold maxLen; omega
  case c3 =>
  intro w2 hown hgr
  have hb2 : Below w1.heap.size w1 w2 := (below_drewN (Below.refl _ _) _).grown hgr (Nat.le_refl _) (by intro k hk; cases hk)
  have HBR : Hid (BRow w2 w1.heap.size N (List.replicate N false)) := by
    unfold Hid BRow
    rw [toList_madeCells_one] at hown
    rw [List.map_replicate]; exact hown
  have HK1 := HK
  have HK := Lib.hid (HK.out.add hb2 (G := fun W => BRow W w1.heap.size N (List.replicate N false) ∧ Below w1.heap.size w1 W) (fun W hW => ⟨HBR.out.below hW, below_to hb2 hW⟩))
  clear hown hgr hb2 HBR hp0 hp1 hp2 hp3 H1 H2 H3 hib hbz0 hbz1 hbz2
  go_wp2_with fail
  refine (rNorm_st HK (fun _ h => ha _ h.2.2) hn _ Rl).mono ?_
  rintro e w3 ⟨A3, c3, rfl, HK⟩
  obtain ⟨hL3, ⟨hBR3, hB13⟩, _⟩ := HK.out.now
  have HL3 := Lib.hid hL3
  have HBR3 := Lib.hid hBR3
  have HB13 := Lib.hid hB13
  clear hL3 hBR3 hB13 HK
  go_wp2_with fail
  go_loopw [10] (fun i wr => ∃ (k : Nat) (bs : List Bool), k ≤ l.length ∧ i = .int .i64 k ∧ Hid (BRow wr w1.heap.size N bs) ∧ Hid (w3.grownBy wr (some w1.heap.size)) ∧ Hid (ThB (InS (l.take k)) D T bs)) (fun i _ => l.length - (intOf i).toNat)
  case atStart => exact ⟨0, _, Nat.zero_le _, rfl, HBR3, Lib.hid ⟨rfl, rfl, rfl, Nat.le_refl _, fun k hk hne => rfl⟩, Lib.hid (ThB.start hT1 (fun y _ _ h => by simp [InS] at h) hN.symm)⟩
  case round =>
  obtain ⟨k, bs, hk, rfl, HBK, HGK, HTK⟩ := hrel
  by_cases hlt : k < l.length
  · obtain ⟨gb, off, p, hA, hp, hc1, hc2⟩ := HL3.out.sp.at_ hlt
    have hne := HBR3.out.apart hc1
    obtain ⟨lo, hi⟩ := p
    have hpm := PlainF.spw Rl.out.1 (Int.le_refl _) _ (List.mem_of_getElem? hp)
    have HP := Lib.hid hp
    simp only at hc1 hc2 hpm
    have HC2 := Lib.hid hc2
    have hd1 := HGK.out.cell hc1 (fun e => hne (by injection e))
    subst hA
    clear hp hc1 hc2
    obtain ⟨x0, hx0⟩ : ∃ z, max lo 0 = z := ⟨_, rfl⟩
    have HT2 : Hid (ThB (Upto l k lo hi x0) D T bs) := by rw [← hx0]; exact HTK.out.congr (fun y h0 _ => upto_start l k lo hi h0)
    have hx00 : 0 ≤ x0 ∧ lo ≤ x0 := by omega
    obtain ⟨hx00, hx01⟩ := hx00
    go_wp2_with fail
    go_loopw [11] (fun j wr2 => ∃ (x : Int) (bs2 : List Bool), x0 ≤ x ∧ j = .int .i64 x ∧ Hid (BRow wr2 w1.heap.size N bs2) ∧ Hid (w3.grownBy wr2 (some w1.heap.size)) ∧ Hid (ThB (Upto l k lo hi x) D T bs2)) (fun j _ => (hi + 1 - intOf j).toNat)
    case atStart => exact ⟨x0, bs, Int.le_refl _, rfl, HBK, HGK, HT2⟩
    case round =>
    obtain ⟨x, bs2, hxx, rfl, HB2, HG2, HTX⟩ := hrel
    have hd2 := HG2.out.cell HC2.out (fun e => hne (by injection e))
    by_cases hx1 : x ≤ hi
    · by_cases hx2 : x < 2097152
      · obtain ⟨q, m, v, n1, n2, n3, n4, ⟨n5, n6⟩, ⟨n7, n8⟩, N9, N10⟩ := val_bits HBB HD HT HU (show 0 ≤ x by omega)
        obtain ⟨j, rfl⟩ := Int.eq_ofNat_of_zero_le n5
        have hjN : j < N := by omega
        have hbl := HB2.out.len
        have hbj : bs2[j]? = some (bs2[j]'(by omega)) := List.getElem?_eq_getElem _
        have hdj := HB2.out.at_ hbj
        have hB2' : wr.ownsRow w1.heap.size 4 1 (.slice (some ⟨w1.heap.size, 0, none⟩) N N) N (bs2.map Value.bool) := HB2.out
        have hfj := hB2'.frozenAt j
        obtain ⟨hst, hgs⟩ := hB2'.stored j (.bool true)
        have HST : Hid (BRow (wr.setCell ⟨w1.heap.size, j, none⟩ (.bool true)) w1.heap.size N (bs2.set j true)) := by
          unfold Hid BRow
          rw [List.map_set]; exact hst
        have HGS : Hid (w3.grownBy (wr.setCell ⟨w1.heap.size, j, none⟩ (.bool true)) (some w1.heap.size)) := Lib.hid (HG2.out.trans hgs)
        have HTN := Lib.hid ((HTX.out.set hT1 (show 0 ≤ x by omega) (by omega) N9.out).congr (fun y _ _ => upto_step (by omega) hx1 y))
        generalize bs2[j] = bj at hdj
        clear hst hgs hB2' hbj n7 n8 n3 N10
        go_wp2_with fail
        exact ⟨⟨x + 1, _, by omega, rfl, HST, HGS, HTN⟩, by simp [intOf]; omega⟩
      · have HTN := Lib.hid (HTX.out.congr (fun y _ h1 => upto_done HP.out (.inr (by omega)) h1))
        have hx2' : ¬ x < 2097152 := hx2
        go_wp2_with fail
        exact ⟨⟨k + 1, _, by omega, by go_num, HB2, HG2, HTN⟩, by simp [intOf]; omega⟩
    · have HTN := Lib.hid (HTX.out.congr (fun y _ h1 => upto_done HP.out (.inl (by omega)) h1))
      have hx1' : ¬ x ≤ hi := hx1
      go_wp2_with fail
      exact ⟨⟨k + 1, _, by omega, by go_num, HB2, HG2, HTN⟩, by simp [intOf]; omega⟩
  · obtain rfl : k = l.length := by omega
    have hd : decide (l.length < l.length) = false := by simp
    have HTL : Hid (ThB (InS l) D T bs) := by have := HTK.out; rw [List.take_length] at this; exact this
    have HB1 := Lib.hid (HB13.out.grown HGK.out (HB13.out.size) (fun k hk => by injection hk with hk; omega))
    have hbl := HBK.out.len
    clear HTK
    go_wp2_with fail
    obtain ⟨w6, hw6⟩ : ∃ w6, w6 = wr := ⟨_, rfl⟩
    rw [← hw6] at HBK HB1 ⊢
    clear hw6
    go_loopw [12, 13, 14] (fun ov fv vv wr => ∃ (v : Nat) (f : Int) (o : List Sp) (Ao : Option Addr) (co : Nat), (v : Int) ≤ T + 1 ∧ ov = .slice Ao o.length co ∧ fv = .int .i64 f ∧ vv = .int .i64 v ∧ Hid (SRow wr w6.heap.size Ao co o) ∧ Hid (RI U bs v f o) ∧ Hid (Below w6.heap.size w6 wr)) (fun _ _ vv _ => (T + 2 - intOf vv).toNat)
    case atStart => exact ⟨0, -1, [], none, 0, by omega, rfl, rfl, rfl, Lib.hid (SRow.start _ _), Lib.hid (RI.start hU1 bs), Lib.hid (Below.refl _ _)⟩
    case round =>
    obtain ⟨v, f, o, Ao, co, hv, rfl, rfl, rfl, HO, HI, HB⟩ := hrel
    by_cases hvT : (v : Int) ≤ T
    · have hvN : v < N := by omega
      have hol := HI.out.1
      have hbv : bs[v]? = some (bs[v]'(by omega)) := List.getElem?_eq_getElem _
      generalize bs[v] = b at hbv
      have hcv := (HB.out.cell (lt_of_cell (HBK.out.at_ hbv))).trans (HBK.out.at_ hbv)
      have HBV := Lib.hid hbv
      clear hbv
      rcases HI.out.shape with ⟨rfl, rfl⟩ | ⟨rfl, hf0, hfv⟩ | ⟨hU3, rfl⟩
      · cases b
        · have HIN := Lib.hid (HI.out.stayA hU1 HBV.out)
          go_wp2_with fail
          exact ⟨⟨v + 1, -1, o, Ao, co, by omega, rfl, rfl, by go_num, HO, HIN, HB⟩, by simp [intOf]; omega⟩
        · have HIN := Lib.hid (HI.out.openA HBV.out)
          go_wp2_with fail
          exact ⟨⟨v + 1, v, o, Ao, co, by omega, rfl, rfl, by go_num, HO, HIN, HB⟩, by simp [intOf]; omega⟩
      · cases b
        · have HIN := Lib.hid (HI.out.shut hf0 HBV.out (by omega))
          go_wp2_with (at_builtin; go_must (refine wpList_pushS rfl _ _ rfl HO.out rfl (by first | rfl | (simp; rfl) | simp) (by omega) HB.out.size ?_); intro l2 A4 c4 w7 HL2 HO5 HG2 HAT2)
          rw [← HL2.out] at HIN
          exact ⟨⟨v + 1, -1, l2, A4, c4, by omega, rfl, rfl, by go_num, HO5, HIN, Lib.hid (SRow.pushed HB.out HO.out (Nat.le_refl _) HB.out.size HG2.out)⟩, by simp [intOf]; omega⟩
        · have HIN := Lib.hid (HI.out.stayO hf0 HBV.out)
          go_wp2_with fail
          exact ⟨⟨v + 1, f, o, Ao, co, by omega, rfl, rfl, by go_num, HO, HIN, HB⟩, by simp [intOf]; omega⟩
      · cases b
        · have HIN := Lib.hid (HI.out.stayA hU1 HBV.out)
          go_wp2_with fail
          exact ⟨⟨v + 1, -1, o, Ao, co, by omega, rfl, rfl, by go_num, HO, HIN, HB⟩, by simp [intOf]; omega⟩
        · have hT64 : T ≤ 64 := by rcases HTU.out with h | h; omega; exact h
          obtain ⟨q, hq⟩ : ∃ q, (v : Int) * U = q := ⟨_, rfl⟩
          have hq0 : 0 ≤ q := by rw [← hq]; exact Int.mul_nonneg (by omega) (by omega)
          have hq1 : q ≤ 67108864 := by rw [← hq]; exact Int.mul_le_mul (b := U) (c := 64) (d := 1048576) (by omega) hU2 (by omega) (by omega)
          have HIN := Lib.hid (HI.out.one hU3 HBV.out hq (by omega))
          go_wp2_with (at_builtin; go_must (refine wpList_pushS rfl _ _ rfl HO.out rfl (by first | rfl | (simp; rfl) | simp) (by omega) HB.out.size ?_); intro l2 A4 c4 w7 HL2 HO5 HG2 HAT2)
          rw [← HL2.out] at HIN
          exact ⟨⟨v + 1, -1, l2, A4, c4, by omega, rfl, rfl, by go_num, HO5, HIN, Lib.hid (SRow.pushed HB.out HO.out (Nat.le_refl _) HB.out.size HG2.out)⟩, by simp [intOf]; omega⟩
    · have hvT' : ¬ (v : Int) ≤ T := hvT
      have HIp : Hid (RI (pw u) bs v f o) := by unfold Hid; rw [HU.out]; exact HI.out
      have HTp : Hid (ThB (InS l) (pw d) (pw t) bs) := by unfold Hid; rw [HD.out, HT.out]; exact HTL.out
      obtain rfl := Rep.unique (RI.rep HBB.out Rl.out HTp.out (by rw [HT.out]; omega) HIp.out) hr.out (fun _ => Iff.rfl)
      go_wp2_with fail
      go_ret
      exact ⟨_, _, rfl, Lib.hid ((HK1.out.add (HB1.out.trans (HB.out.mono HB1.out.size)) (hr.out.1.lst HO.out.spans)).weaken fun W h => ⟨h.1, h.2.2⟩)⟩
end
end Go.Proofs.Ytdaagdohhnhbdaa
