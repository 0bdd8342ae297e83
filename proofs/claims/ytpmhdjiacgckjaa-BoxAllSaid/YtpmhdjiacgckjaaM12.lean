/- Contract of part.Pre: the plain list of the numbers of a set whose values are in another one. Condition: both lists at hand are known. The symbols of a place by their values: words for choices in memory; contract of (*box.finder).choices where the place has one part. Condition: the finder is known. -/
import Derived.Test.YtpmhdjiacgckjaaM11
import Derived.Lib.MinMax
import Derived.Test.YtpmhdjiacgckjaaM06
import Derived.Test.YtpmhdjiacgckjaaM09
section
namespace Go.Proofs.Ytpmhdjiacgckjaa
open Go.RowKit Go.Shelf
set_option linter.unusedVariables false
set_option linter.unusedSimpArgs false

/-- the numbers of one step -/
theorem pre_nums {d t D T x1 x2 y1 y2 z : Int} (HT : Hid (pw t = T)) (HD : Hid (pw d = D)) (t0 : 0 ≤ t) (t1 : t ≤ 21) (d0 : 0 ≤ d) (d1 : d ≤ 20) (hx0 : 0 ≤ x1) (hx2 : x2 ≤ 2097151) (hy0 : 0 ≤ y1) (hy12 : y1 ≤ y2) (hy2 : y2 ≤ T - 1)
    (hz0 : 0 ≤ z) (hz : z ≤ x2 / D / T) : ∃ jt q1 q2 s1 s2 lo hi : Int, z * T = jt ∧ (0 ≤ jt ∧ jt ≤ 2097151) ∧ bits BinOp.or IntKind.i64 jt y1 = q1 ∧ bits BinOp.or IntKind.i64 jt y2 = q2 ∧ (0 ≤ q1 ∧ q1 ≤ 4194304) ∧ (0 ≤ q2 ∧ q2 ≤ 4194304) ∧
      q1 * D = s1 ∧ (q2 + 1) * D = s2 ∧ (0 ≤ s1 ∧ s1 ≤ 4398047559680) ∧ (0 ≤ s2 ∧ s2 ≤ 4398047559680) ∧ max x1 s1 = lo ∧ min x2 (s2 - 1) = hi ∧ Hid (max x1 ((z * T + y1) * D) = lo) ∧ Hid (min x2 ((z * T + y2 + 1) * D - 1) = hi) ∧ 0 ≤ lo ∧ hi ≤ 2097151 := by
  have hT := pw_le21 (n := t) t0 t1
  have hT0 := pw_pos t
  have hD : pw d ≤ 1048576 := pw_mono (n := 20) d0 d1
  have hD0 := pw_pos d
  rw [HT.out] at hT hT0
  rw [HD.out] at hD hD0
  have hzT : z * T ≤ x2 / D := (Int.le_ediv_iff_mul_le (by omega)).1 hz
  have hzT0 : 0 ≤ z * T := Int.mul_nonneg hz0 (by omega)
  have hx2D : x2 / D ≤ 2097151 := by
    by_cases h : 0 ≤ x2
    · have := Int.ediv_le_self D h; omega
    · have : x2 / D ≤ 0 := by
        have := Int.ediv_le_ediv (show 0 < D by omega) (show x2 ≤ 0 by omega)
        simpa using this
      omega
  have hzle : z ≤ 4194304 := by
    have := Int.mul_le_mul_of_nonneg_left (show 1 ≤ T by omega) hz0
    omega
  have e1 : bits BinOp.or IntKind.i64 (z * T) y1 = z * T + y1 := by rw [← HT.out] at hy2 ⊢; exact bor_above hz0 hzle t0 t1 hy0 (by omega)
  have e2 : bits BinOp.or IntKind.i64 (z * T) y2 = z * T + y2 := by rw [← HT.out] at hy2 ⊢; exact bor_above hz0 hzle t0 t1 (by omega) (by omega)
  have m1 : (z * T + y1) * D ≤ 4194303 * 1048576 := Int.mul_le_mul (by omega) hD (by omega) (by omega)
  have m2 : (z * T + y2 + 1) * D ≤ 4194304 * 1048576 := Int.mul_le_mul (by omega) hD (by omega) (by omega)
  have n1 : 0 ≤ (z * T + y1) * D := Int.mul_nonneg (by omega) (by omega)
  have n2 : 0 ≤ (z * T + y2 + 1) * D := Int.mul_nonneg (by omega) (by omega)
  exact ⟨z * T, z * T + y1, z * T + y2, (z * T + y1) * D, (z * T + y2 + 1) * D, _, _, rfl, ⟨hzT0, by omega⟩, e1, e2, by omega, by omega, rfl, rfl, by omega, by omega, rfl, rfl, rfl, rfl, by omega, by omega⟩

/-- what is known in the rounds: the row, the box of a span, which the row isn't -/
structure PSt (w3 : World) (bx : Nat) (x1 x2 : Int) (o : List Sp) (A : Option Addr) (c : Nat) (W : World) : Prop where
  row : SRow W w3.heap.size A c o
  bel : Below w3.heap.size w3 W
  c1 : W.cell? ⟨bx, 0, none⟩ = some (.int .i64 x1)
  c2 : W.cell? ⟨bx, 1, none⟩ = some (.int .i64 x2)
  ne : Value.ownBlock (.slice A o.length c) ≠ some bx
  nums : In21 o
theorem PSt.start {w3 W : World} {x1 x2 : Int} {o : List Sp} {A : Option Addr} {c q : Nat} (h : SRow W w3.heap.size A c o) (hb : Below w3.heap.size w3 W) (hn : In21 o) : PSt w3 W.heap.size x1 x2 o A c ((W.alloc (.cells #[.int .i64 x1, .int .i64 x2] 52)).drewN q) := by
  have hbk := heap_alloc_new W (.cells #[.int .i64 x1, .int .i64 x2] 52)
  refine ⟨(h.alloc _).drewN q, below_drewN (hb.alloc hb.size _) q, ?_, ?_, fun e => ?_, hn⟩
  · show (W.alloc _).cell? _ = _
    simp only [World.cell?, hbk]; rfl
  · show (W.alloc _).cell? _ = _
    simp only [World.cell?, hbk]; rfl
  · have := (h.lt _ e).2
    omega
theorem PSt.round {w3 W : World} {bx : Nat} {x1 x2 y1 y2 : Int} {o : List Sp} {A : Option Addr} {c : Nat} (h : PSt w3 bx x1 x2 o A c W) (q : Nat) : PSt w3 bx x1 x2 o A c ((W.alloc (.cells #[.int .i64 y1, .int .i64 y2] 52)).drewN q) := by
  refine ⟨(h.row.alloc _).drewN q, below_drewN (h.bel.alloc h.bel.size _) q, ?_, ?_, h.ne, h.nums⟩
  · exact cellAlloc _ h.c1
  · exact cellAlloc _ h.c2
theorem PSt.drewN {w3 W : World} {bx : Nat} {x1 x2 : Int} {o : List Sp} {A : Option Addr} {c : Nat} (h : PSt w3 bx x1 x2 o A c W) (q : Nat) : PSt w3 bx x1 x2 o A c (W.drewN q) := ⟨h.row.drewN q, below_drewN h.bel q, h.c1, h.c2, h.ne, h.nums⟩
theorem PSt.push {w3 W W' : World} {bx : Nat} {x1 x2 : Int} {ob : Obj} {o o' : List Sp} {A A' : Option Addr} {c c' : Nat} (h : PSt w3 bx x1 x2 o A c W) (hO : SRow W' w3.heap.size A' c' o') (hG : (W.alloc ob).grownBy W' (Value.ownBlock (.slice A o.length c)))
    (hA : Value.ownBlock (.slice A' o'.length c') = Value.ownBlock (.slice A o.length c) ∨ Value.ownBlock (.slice A' o'.length c') = some (W.heap.size + 1)) (hn : In21 o') : PSt w3 bx x1 x2 o' A' c' W' := by
  have hbx := lt_of_cell h.c1
  refine ⟨hO, SRow.pushed h.bel h.row (Nat.le_refl _) h.bel.size hG, hG.cell (cellAlloc _ h.c1) (fun e => h.ne e.symm), hG.cell (cellAlloc _ h.c2) (fun e => h.ne e.symm), fun e => ?_, hn⟩
  rcases hA with g | g
  · exact h.ne (g ▸ e)
  · rw [g] at e; injection e with e; omega

section
variable {w0 w : World} {F : World → Prop} {A G : Option Addr} {a0 g0 r : List Sp}
set_option maxRecDepth 100000 in
set_option maxHeartbeats 16000000 in
theorem Pre_stN (hK : Hid (St w0 w F)) (ha : ∀ W, F W → Lst A a0 W) (hg : ∀ W, F W → Lst G g0 W) (c cg : Nat) (a d t u : Int) (hr : Hid (Rep r (PreS d t u a0 g0))) :
    Calls Try.prog 31 #[.agg #[.int .i64 a, .int .i64 d, .int .i64 t, .int .i64 u], .slice A a0.length c, .slice G g0.length cg] w (RetLN w0 w r F) := by
  have hK0 := hK
  have hK : Hid (St w w F) := Lib.hid (St.start hK.out.1)
  have HK := St.pbox hK a d t u
  rcases hb : bitsB d t u with _ | _
  · obtain rfl := rep_none hr.out (fun x h => by have := h.1; rw [hb] at this; cases this)
    have HBB := Lib.hid hb
    clear hb
    go_enter Try.func31, Try.ntmps31
    go_wp2_with fail
    refine (bits_st HK a d t u HBB.out).mono ?_
    rintro e w1 ⟨rfl, HK⟩
    go_wp2_with fail
    go_ret
    exact RetLN.fin hK0 (Below.refl _ _) (retLN_nil HK HK.out.2) fun W h => h.2
  have HBB := Lib.hid hb
  obtain ⟨b1, b2, b3, b4, b5, b6, b7⟩ := (bitsB_iff _ _ _).1 hb
  obtain ⟨m, Rm⟩ := rep_meet a0 [(0, 2097151)]
  have RM : Hid (Rep m (topM a0)) := Rm
  have hml := topM_len RM.out
  obtain ⟨Wn, RW⟩ := rep_tk (t := t) (by omega) b4 u g0
  have hWl := RW.out.1.len_le
  have HWM := Lib.hid (want_mem RW.out)
  obtain ⟨T, hT⟩ : ∃ T, (2 : Int) ^ t.toNat = T := ⟨_, rfl⟩
  have HT : Hid (pw t = T) := Lib.hid hT
  obtain ⟨D, hD⟩ : ∃ D, (2 : Int) ^ d.toNat = D := ⟨_, rfl⟩
  have HD : Hid (pw d = D) := Lib.hid hD
  have hT1 : 1 ≤ T ∧ T ≤ 2097152 := by have h1 := pw_pos t; have h2 := pw_le21 (n := t) (by omega) b4; rw [HT.out] at h1 h2; exact ⟨h1, h2⟩
  have hD1 : 1 ≤ D := by have h1 := pw_pos d; rw [HD.out] at h1; exact h1
  obtain ⟨hT1, hT2⟩ := hT1
  have HWM2 : Hid (∀ p ∈ Wn, 0 ≤ p.1 ∧ p.1 ≤ p.2 ∧ p.2 ≤ T - 1) := Lib.hid (fun p hp => by have := HWM.out p hp; rw [HT.out] at this; exact this)
  clear hb b7 HWM
  go_enter Try.func31, Try.ntmps31
  go_wp2_with fail
  refine (bits_st HK a d t u HBB.out).mono ?_
  rintro e w1 ⟨rfl, HK⟩
  obtain ⟨hp0, hp1, hp2, hp3⟩ := HK.out.now.1
  go_wp2_with fail
  refine (taken_st HK (fun _ h => hg _ h.2) _ a d t u HBB RW).mono ?_
  rintro e w2 ⟨A2, c2, rfl, HK⟩
  clear hp0 hp1 hp2 hp3
  go_wp2_with fail
  have HK := St.lit HK (0, 2097151) (by intro p hp; simp at hp; subst hp; simp)
  refine (Meet_st HK (fun _ h => ha _ h.2.2.2) (fun _ h => h.1) _ _ Rm).mono ?_
  rintro e w3 ⟨A1, c1, rfl, HK⟩
  go_wp2_with fail
  go_loopw [8, 27] (fun v i wr => ∃ (k : Nat) (o : List Sp) (Ao : Option Addr) (co : Nat), k ≤ m.length ∧ i = .int .i64 k ∧ v = .slice Ao o.length co ∧ Hid (SRow wr w3.heap.size Ao co o) ∧ Hid (Pre1 D T m Wn k o) ∧ Hid (In21 o) ∧ Hid (Below w3.heap.size w3 wr)) (fun _ i _ => m.length - (intOf i).toNat)
  case atStart => exact ⟨0, [], none, 0, Nat.zero_le _, rfl, rfl, Lib.hid (SRow.start _ _), Lib.hid (Pre1.start RM.out), Lib.hid (fun p hp => by cases hp), Lib.hid (Below.refl _ _)⟩
  case round =>
  obtain ⟨k, o, Ao, co, hk, rfl, rfl, HO, HI, HN, HB⟩ := hrel
  have HS := Lib.hid (HK.out.step HB.out)
  by_cases hlt : k < m.length
  · obtain ⟨gb, off, p, hA, hp, hc1, hc2⟩ := HS.out.now.1.sp.at_ hlt
    obtain ⟨x1, x2⟩ := p
    obtain ⟨hx0, hx12, hx2⟩ := topM_mem RM.out hp
    obtain ⟨hp0, hp1, hp2, hp3⟩ := HS.out.now.2.2.2.1
    have HP := Lib.hid hp
    simp only at hc1 hc2
    have hgw := lt_of_cell hc1
    have hbw := lt_of_cell hp1
    subst hA
    clear hp
    obtain ⟨j0, hj0⟩ : ∃ z, x1 / D / T = z := ⟨_, rfl⟩
    have HI2 := Lib.hid (HI.out.go hD1 hT1 RM.out HP.out)
    rw [hj0] at HI2
    obtain ⟨jm, hjm⟩ : ∃ z, x2 / D / T = z := ⟨_, rfl⟩
    have HJM := Lib.hid hjm
    have hj00 : 0 ≤ j0 := by rw [← hj0]; exact Int.ediv_nonneg (Int.ediv_nonneg hx0 (by omega)) (by omega)
    have hj01 : j0 ≤ jm := by rw [← hj0, ← hjm]; exact Int.ediv_le_ediv (by omega) (Int.ediv_le_ediv (by omega) hx12)
    have hjmx : jm ≤ 2097151 := by
      rw [← hjm]
      have q1 : x2 / D ≤ x2 := Int.ediv_le_self _ (by omega)
      have q2 : x2 / D / T ≤ x2 / D := Int.ediv_le_self _ (Int.ediv_nonneg (by omega) (by omega))
      omega
    have HPS := Lib.hid (fun q => PSt.start (x1 := x1) (x2 := x2) (q := q) HO.out HB.out HN.out)
    go_wp2_with (go_quiet (fail))
    clear hc1 hc2
    obtain ⟨w4, hw4⟩ : ∃ w4, (wr.alloc (.cells #[.int .i64 x1, .int .i64 x2] 52)).drewN nq = w4 := ⟨_, rfl⟩
    have HP4 := Lib.hid (HPS.out nq)
    obtain ⟨bx, hbx⟩ : ∃ b, wr.heap.size = b := ⟨_, rfl⟩
    rw [hbx] at HP4
    rw [hw4] at HP4
    rw [hw4, hbx]
    clear hw4 hbx HPS
    go_loopw [8, 11] (fun v j wr2 => ∃ (z : Int) (o2 : List Sp) (Ao2 : Option Addr) (co2 : Nat), j0 ≤ z ∧ z ≤ jm + 1 ∧ j = .int .i64 z ∧ v = .slice Ao2 o2.length co2 ∧ Hid (PSt w3 bx x1 x2 o2 Ao2 co2 wr2) ∧ Hid (Pre2 D T m Wn k x1 x2 z o2)) (fun _ j _ => (jm + 1 - intOf j).toNat)
    case atStart => exact ⟨j0, o, Ao, co, by omega, by omega, rfl, rfl, HP4, HI2⟩
    case round =>
    obtain ⟨z, o2, Ao2, co2, hz0, hz1, rfl, rfl, HPZ, HIZ⟩ := hrel
    have HSZ := Lib.hid (HK.out.step HPZ.out.bel)
    have hx1 := HPZ.out.c1
    have hx2c := HPZ.out.c2
    obtain ⟨hp0, hp1, hp2, hp3⟩ := HSZ.out.now.2.2.2.1
    by_cases hlz : z ≤ jm
    · have HI3 := Lib.hid (HIZ.out.go hD1 HWM2.out hT1)
      go_wp2_with (go_quiet (fail))
      have HPZ3 := Lib.hid (HPZ.out.drewN nq)
      clear hx1 hx2c hp0 hp1 hp2 hp3
      go_loopw [8, 53] (fun v i wr3 => ∃ (ii : Nat) (o3 : List Sp) (Ao3 : Option Addr) (co3 : Nat), ii ≤ Wn.length ∧ i = .int .i64 ii ∧ v = .slice Ao3 o3.length co3 ∧ Hid (PSt w3 bx x1 x2 o3 Ao3 co3 wr3) ∧ Hid (Pre3 D T m Wn k x1 x2 z ii o3)) (fun _ i _ => Wn.length - (intOf i).toNat)
      case atStart => exact ⟨0, o2, Ao2, co2, Nat.zero_le _, rfl, rfl, HPZ3, HI3⟩
      case round =>
      obtain ⟨ii, o3, Ao3, co3, hii, rfl, rfl, HP3, HIY⟩ := hrel
      have HS3 := Lib.hid (HK.out.step HP3.out.bel)
      by_cases hly : ii < Wn.length
      · obtain ⟨gy, offy, py, hAy, hy, hd1, hd2⟩ := HS3.out.now.2.2.1.sp.at_ hly
        obtain ⟨y1, y2⟩ := py
        obtain ⟨hy0, hy12, hy2⟩ := HWM2.out (y1, y2) (List.mem_of_getElem? hy)
        have HY := Lib.hid hy
        simp only at hd1 hd2 hy0 hy12 hy2
        have hgy := lt_of_cell hd1
        subst hAy
        obtain ⟨jt, q1, q2, s1, s2, lo, hi, n1, ⟨n2, n3⟩, n4, n5, ⟨n6, n7⟩, ⟨n8, n9⟩, n10, n11, ⟨n12, n13⟩, ⟨n14, n15⟩, n16, n17, N18, N19, n20, n21⟩ := pre_nums HT HD (by omega) b4 b1 b2 hx0 hx2 hy0 hy12 hy2 (show 0 ≤ z by omega) (show z ≤ x2 / D / T by rw [HJM.out]; exact hlz)
        have hx1 := HP3.out.c1
        have hx2c := HP3.out.c2
        have hbx := lt_of_cell hx1
        obtain ⟨hp0, hp1, hp2, hp3⟩ := HS3.out.now.2.2.2.1
        have hpw := lt_of_cell hp1
        have HPR := Lib.hid (fun q => HP3.out.round (y1 := y1) (y2 := y2) q)
        have hol := HIY.out.len hx2
        clear hy
        by_cases hle : lo ≤ hi
        · have HIN := Lib.hid (HIY.out.push hD1 hT1 RW.out.1 HWM2.out HY.out hx0 N18.out N19.out hle)
          go_wp2_with (first | go_quiet (fail) | (at_builtin; go_must (refine wpList_pushS rfl _ _ rfl (HPR.out _).row rfl (by first | rfl | (simp; rfl) | simp) (by omega) (by have := (HPR.out 0).bel.size; simp at this ⊢; omega) ?_); intro l2 A2 c2 w5 HL2 HO2 HG2 HAT2))
          rw [← HL2.out] at HIN
          exact ⟨⟨ii + 1, l2, A2, c2, by omega, by go_num, rfl, Lib.hid ((HPR.out _).push HO2.out HG2.out HAT2.out (by rw [HL2.out]; exact HP3.out.nums.push n20 hle n21)), HIN⟩, by simp [intOf]; omega⟩
        · have hnl : ¬ lo ≤ hi := hle
          have HIN := Lib.hid (HIY.out.skip hD1 hT1 HWM2.out HY.out (by rw [N18.out, N19.out]; exact hle))
          go_wp2_with (go_quiet (fail))
          exact ⟨⟨ii + 1, o3, Ao3, co3, by omega, by go_num, rfl, Lib.hid (HPR.out _), HIN⟩, by simp [intOf]; omega⟩
      · have HI3d := Lib.hid (HIY.out)
        obtain rfl : ii = Wn.length := by omega
        have hd : decide (Wn.length < Wn.length) = false := by simp
        have HI4 := Lib.hid (HIY.out.done)
        go_wp2_with fail
        exact ⟨⟨z + 1, o3, Ao3, co3, by omega, by omega, rfl, rfl, HP3, HI4⟩, by simp [intOf]; omega⟩
    · have HI1 := Lib.hid (HIZ.out.done hD1 hT1 RM.out HP.out (by rw [HJM.out]; omega))
      have hnz : ¬ z ≤ jm := hlz
      go_wp2_with (go_quiet (fail))
      exact ⟨⟨k + 1, o2, Ao2, co2, by omega, by go_num, rfl, Lib.hid (HPZ.out.drewN _).row, HI1, Lib.hid HPZ.out.nums, Lib.hid (HPZ.out.drewN _).bel⟩, by simp [intOf]; omega⟩
  · obtain rfl : k = m.length := by omega
    have hd : decide (m.length < m.length) = false := by simp
    have HL := Lib.hid HI.out.len
    have hwd : SpW o := HN.out.spw
    have HK4 := Lib.hid (HK.out.add (G := fun W => True) HB.out (fun W hW => trivial))
    have HK := Lib.hid (HK4.out.add (Below.refl _ _) (G := Lst Ao o) (fun W hW => ⟨HO.out.spans.below hW, hwd, by have := HL.out; omega⟩))
    obtain ⟨ro, Ro⟩ := rep_norm o
    go_wp2_with fail
    have HBN := Lib.hid HK.out.2
    refine (Norm_stN HK (fun _ h => h.1) _ Ro).mono ?_
    rintro e w5 ⟨A5, c5, rfl, HO5, HK, HB5⟩
    have HIp : Hid (Pre1 (pw d) (pw t) m Wn m.length o) := by unfold Hid; rw [HD.out, HT.out]; exact HI.out
    obtain rfl := Rep.unique (HIp.out.rep HBB.out RM.out RW.out Ro.out) hr.out (fun _ => Iff.rfl)
    go_wp2_with fail
    go_ret
    exact RetLN.fin hK0 HBN.out ⟨A5, c5, rfl, HO5, HK, HB5⟩ fun W h => h.2.2.2.2.2.2
theorem Pre_st (hK : Hid (St w0 w F)) (ha : ∀ W, F W → Lst A a0 W) (hg : ∀ W, F W → Lst G g0 W) (c cg : Nat) (a d t u : Int) (hr : Hid (Rep r (PreS d t u a0 g0))) :
    Calls Try.prog 31 #[.agg #[.int .i64 a, .int .i64 d, .int .i64 t, .int .i64 u], .slice A a0.length c, .slice G g0.length cg] w (RetL w0 r F) := (Pre_stN hK ha hg c cg a d t u hr).mono fun _ _ h => h.retL
end
end Go.Proofs.Ytpmhdjiacgckjaa
end
section
namespace Go.Proofs.Ytpmhdjiacgckjaa
open Go.RowKit Go.Shelf
set_option linter.unusedVariables false
set_option linter.unusedSimpArgs false
attribute [local go_sem] Oper.semAt_some

abbrev Ch := Int × Item Sp
def chC (x : Ch) : List Value := [.int .i64 x.1, ival x.2]
def chV (x : Ch) : Int × List Sp := (x.1, x.2.2.2)
theorem infoCh : (Try.prog.info? 88).map (fun i => (i.zero, i.size, i.bytes)) = some (some (.agg #[.int .i64 0, .slice none 0 0]), 2, 32) := by kernel_rfl
/-- a list of choices: its row, and each one's set in a block of its own -/
structure ChRow (base : Nat) (A : Option Addr) (c : Nat) (L : List Ch) (W : World) : Prop where
  own : W.ownsRow base 88 2 (.slice A L.length c) L.length (L.flatMap chC)
  sets : ∀ x ∈ L, SRow W base x.2.1 x.2.2.1 x.2.2.2 ∧ ∀ g, ownA x.2.1 = some g → ownA A ≠ some g
theorem own_turn {W W' : World} {base sz : Nat} {et : TypeId} {A : Option Addr} {c n : Nat} {xs : List Value} {row : Option Nat} (h : W.ownsRow base et sz (.slice A n c) n xs) (hg : W.grownBy W' row)
    (hr : ∀ r, row = some r → ∃ o : Obj, W.heap[r]? = some o ∧ o.isCells = false) : W'.ownsRow base et sz (.slice A n c) n xs := by
  refine own_keep h fun g hA => ?_
  refine hg.block g (h.lt g (by rw [own_ownA]; exact hA)).2 fun e => ?_
  obtain ⟨o, ho, hc⟩ := hr g e.symm
  rcases h.2 with ⟨e', _⟩ | ⟨g', cap, cur, e', _, hgg, _⟩
  · injection e' with e1; subst e1; cases hA
  · injection e' with e1; subst e1
    injection hA with hA; simp only at hA; subst hA
    rw [hgg] at ho; cases ho; cases hc
theorem ChRow.turn {base : Nat} {A : Option Addr} {c : Nat} {L : List Ch} {W W' : World} {row : Option Nat} (h : ChRow base A c L W) (hg : W.grownBy W' row) (hr : ∀ r, row = some r → ∃ o : Obj, W.heap[r]? = some o ∧ o.isCells = false) : ChRow base A c L W' :=
  ⟨own_turn h.own hg hr, fun x hx => ⟨own_turn (h.sets x hx).1 hg hr, (h.sets x hx).2⟩⟩
theorem ChRow.keep {base : Nat} {A : Option Addr} {c : Nat} {L : List Ch} {W W' : World} (h : ChRow base A c L W) (hk : ∀ k, base ≤ k → k < W.heap.size → W'.heap[k]? = W.heap[k]?) : ChRow base A c L W' :=
  ⟨own_keep h.own fun k hA => hk k (h.own.lt k (by rw [own_ownA]; exact hA)).1 (h.own.lt k (by rw [own_ownA]; exact hA)).2,
   fun x hx => ⟨own_keep (h.sets x hx).1 fun k hA => hk k ((h.sets x hx).1.lt k (by rw [own_ownA]; exact hA)).1 ((h.sets x hx).1.lt k (by rw [own_ownA]; exact hA)).2, (h.sets x hx).2⟩⟩
/-- what a body does to the row that its box holds: whatever its records are -/
theorem KpB.pushedG {lo hi Bu : Nat} {W w0 W3 : World} {A A' : Option Addr} {n c n' c' base sz : Nat} {et : TypeId} {xs ys : List Value} (h1 : lo ≤ Bu) (h2 : Bu < hi) (hv : W.cell? ⟨Bu, 0, none⟩ = some (.slice A n c))
    (hb : Below W.heap.size W w0) (ho0 : w0.ownsRow base et sz (.slice A n c) n ys) (hg : w0.grownBy W3 (ownA A)) (hat : Newer (ownA A) (ownA A') W.heap.size)
    (ho : W3.ownsRow base et sz (.slice A' n' c') n' xs) (hbase : hi ≤ base) :
    KpB lo hi Bu W (W3.setCell ⟨Bu, 0, none⟩ (.slice A' n' c')) ∧ (W3.setCell ⟨Bu, 0, none⟩ (.slice A' n' c')).cell? ⟨Bu, 0, none⟩ = some (.slice A' n' c') := by
  have hBu := lt_of_cell hv
  have hs1 := hb.size
  have hs2 := hg.size
  have hA0 : ∀ k, ownA A = some k → OwnB lo hi Bu W k := fun k hk => by
    rcases ho0.2 with ⟨e, _⟩ | ⟨g, cap, cur, e, _⟩
    · injection e with e1; subst e1; cases hk
    · injection e with e1; subst e1
      injection hk with hk; simp only at hk; subst hk
      exact .inr ⟨0, n, c, hv⟩
  have hne : some Bu ≠ ownA A := fun e => by have := ho0.lt Bu (by rw [own_ownA]; exact e.symm); omega
  have hcB : W3.cell? ⟨Bu, 0, none⟩ = some (.slice A n c) := (World.cell?_of_block (hg.block Bu (by omega) hne)).trans ((hb.cell (p := ⟨Bu, 0, none⟩) hBu).trans hv)
  have hc4 : (W3.setCell ⟨Bu, 0, none⟩ (.slice A' n' c')).cell? ⟨Bu, 0, none⟩ = some (.slice A' n' c') := World.cell?_setCell_same' _ _ _ (by rw [hcB]; rfl)
  have hsz : (W3.setCell ⟨Bu, 0, none⟩ (.slice A' n' c')).heap.size = W3.heap.size := by simp
  have key : ∀ k, OwnB lo hi Bu (W3.setCell ⟨Bu, 0, none⟩ (.slice A' n' c')) k → OwnB lo hi Bu W k ∨ (W.heap.size ≤ k ∧ k < W3.heap.size) := by
    rintro k (h | ⟨off, m, d, h⟩)
    · exact .inl (.inl h)
    · rw [hc4] at h
      injection h with h
      injection h with e1 e2 e3
      subst e1
      have hlt := (ho.lt k rfl).2
      rcases hat with h | ⟨g, h, hgl⟩
      · exact .inl (hA0 k h.symm)
      · injection h with h; simp only at h; subst h
        exact .inr ⟨hgl, hlt⟩
  refine ⟨⟨by rw [hsz]; omega, fun p u hu hno => ?_, fun k hk => ?_, fun hw k hk => ?_⟩, hc4⟩
  · have hp := World.block_lt_of_cell? W p hu
    have hpB : Bu ≠ p.block := fun e => hno (.inl (by omega))
    rw [World.cell?_setCell_far _ _ _ _ hpB]
    exact hg.cell ((hb.cell hp).trans hu) (fun e => hno (hA0 _ e.symm))
  · rcases key k hk with h | h
    · exact .inl h
    · exact .inr h.1
  · rw [hsz]
    rcases key k hk with h | h
    · have := hw k h; omega
    · exact h.2
/-- a box that holds a row of choices -/
structure ChBox (Bu base : Nat) (A : Option Addr) (c : Nat) (L : List Ch) (W : World) : Prop where
  cell : W.cell? ⟨Bu, 0, none⟩ = some (.slice A L.length c)
  fz : W.frozen? ⟨Bu, 0, none⟩ = false
  row : ChRow base A c L W
theorem ChBox.push {lo hi Bu base : Nat} {W w0 W3 : World} {A A' : Option Addr} {c c' : Nat} {L : List Ch} {s : Item Sp} {x : Int} {ob : Obj} (h : ChBox Bu base A c L W) (h1 : lo ≤ Bu) (h2 : Bu < hi) (h3 : hi ≤ base) (hb : Below W.heap.size W w0) (hob : ob.isCells = true)
    (hs : SRow w0 base s.1 s.2.1 s.2.2) (hsn : ∀ g, ownA s.1 = some g → W.heap.size ≤ g) (HO : W3.ownsRow base 88 2 (.slice A' (L.length + 1) c') (L.length + 1) (L.flatMap chC ++ [.int .i64 x, ival s]))
    (HG : (w0.alloc ob).grownBy W3 (ownA A)) (HN : Newer (ownA A) (ownA A') (w0.heap.size + 1)) :
    KeepsOthers W (W3.setCell ⟨Bu, 0, none⟩ (.slice A' (L.length + 1) c')) ∧ KpB lo hi Bu W (W3.setCell ⟨Bu, 0, none⟩ (.slice A' (L.length + 1) c')) ∧ ChBox Bu base A' c' (L ++ [(x, s)]) (W3.setCell ⟨Bu, 0, none⟩ (.slice A' (L.length + 1) c')) ∧
      Below lo W (W3.setCell ⟨Bu, 0, none⟩ (.slice A' (L.length + 1) c')) := by
  obtain ⟨hv, hf, hr⟩ := h
  have hBu := lt_of_cell hv
  have hba : Below W.heap.size W (w0.alloc ob) := hb.alloc hb.size _
  have hsw := hb.size
  have hown : w0.ownsRow base 88 2 (.slice A L.length c) L.length (L.flatMap chC) := own_keep hr.own fun k hA => hb.block k (hr.own.lt k (by rw [own_ownA]; exact hA)).2
  have howna : (w0.alloc ob).ownsRow base 88 2 (.slice A L.length c) L.length (L.flatMap chC) := hown.alloc _
  have hlA : ∀ k, ownA A = some k → base ≤ k ∧ k < W.heap.size := fun k hk => hr.own.lt k (by rw [own_ownA]; exact hk)
  have HN2 : Newer (ownA A) (ownA A') W.heap.size := by
    rcases HN with h | ⟨g, h, hg⟩
    · exact .inl h
    · exact .inr ⟨g, h, by omega⟩
  obtain ⟨k1, k2⟩ := KpB.pushedG (lo := lo) (hi := hi) h1 h2 hv hba howna HG HN2 HO h3
  have hne : some Bu ≠ ownA A := fun e => by have := hlA Bu e.symm; omega
  have hset : ∀ k, k ≠ Bu → (W3.setCell ⟨Bu, 0, none⟩ (.slice A' (L.length + 1) c')).heap[k]? = W3.heap[k]? := fun k hk => heap_setCell_other _ _ _ _ (fun e => hk e)
  have hold : ∀ k, k < w0.heap.size → k ≠ Bu → ownA A ≠ some k → (W3.setCell ⟨Bu, 0, none⟩ (.slice A' (L.length + 1) c')).heap[k]? = w0.heap[k]? := fun k hk hkb hkA =>
    (hset k hkb).trans ((HG.block k (by simp; omega) (fun e => hkA e.symm)).trans (Below.heap_alloc _ _ _ hk))
  have hnew : ∀ k, k < w0.heap.size → ownA A' = some k → ownA A = some k := fun k hk h => by
    rcases HN with e | ⟨g, e, hg⟩
    · rw [← e]; exact h
    · rw [e] at h; injection h with h; omega
  refine ⟨?_, k1, ⟨by rw [List.length_append]; exact k2, ?_, ?_, ?_⟩, ?_⟩
  · have q1 : KeepsOthers W w0 := ⟨hb.size, fun k o hk _ => (hb.block k (Array.getElem?_eq_some_iff.1 hk).1).trans hk⟩
    refine ((q1.trans (KeepsOthers.alloc w0 ob)).trans (KeepsOthers.of_grownBy HG ?_)).trans (KeepsOthers.setCell _ _ _)
    intro j oj hj hoj
    rcases howna.2 with ⟨e', _⟩ | ⟨g', cap, cur, e', _, hgg, _⟩
    · injection e' with e1; subst e1; cases hj
    · injection e' with e1; subst e1
      injection hj with hj; simp only at hj; subst hj
      rw [hgg] at hoj; cases hoj; rfl
  · rw [World.frozen?_setCell]
    exact (World.frozen?_of_block (HG.block Bu (by have := hba.size; omega) hne)).trans ((hba.frozen (p := ⟨Bu, 0, none⟩) hBu).trans hf)
  · rw [List.length_append, List.flatMap_append]
    refine own_keep HO fun k hA => hset k ?_
    have := HO.lt k (by rw [own_ownA]; exact hA)
    omega
  · intro y hy
    rcases List.mem_append.1 hy with hy | hy
    · obtain ⟨hy1, hy2⟩ := hr.sets y hy
      have hl : ∀ k, ownA y.2.1 = some k → base ≤ k ∧ k < W.heap.size := fun k hk => hy1.lt k (by rw [own_ownA]; exact hk)
      refine ⟨own_keep hy1 fun k hk => (hold k (by have := hl k hk; omega) (by have := hl k hk; omega) (hy2 k hk)).trans (hb.block k (hl k hk).2), fun g hg he => hy2 g hg (hnew g (by have := hl g hg; omega) he)⟩
    · obtain rfl := List.mem_singleton.1 hy
      have hl : ∀ k, ownA s.1 = some k → base ≤ k ∧ k < w0.heap.size := fun k hk => hs.lt k (by rw [own_ownA]; exact hk)
      have hnA : ∀ k, ownA s.1 = some k → ownA A ≠ some k := fun k hk he => by have := hsn k hk; have := hlA k he; omega
      exact ⟨own_keep hs fun k hk => hold k (hl k hk).2 (by have := hl k hk; omega) (hnA k hk), fun g hg he => hnA g hg (hnew g (hl g hg).2 he)⟩
  · have q2 : Below lo W (w0.alloc ob) := hba.mono (by omega)
    exact (q2.grown HG (by have := hba.size; omega) (fun k hk => by have := hlA k hk; omega)).setCell (p := ⟨Bu, 0, none⟩) h1 _
theorem ChRow.push {base : Nat} {W w0 W3 : World} {A A' : Option Addr} {c c' : Nat} {L : List Ch} {s : Item Sp} {x : Int} {ob : Obj} (hr : ChRow base A c L W) (hb : Below W.heap.size W w0)
    (hs : SRow w0 base s.1 s.2.1 s.2.2) (hsn : ∀ g, ownA s.1 = some g → W.heap.size ≤ g) (HO : W3.ownsRow base 88 2 (.slice A' (L.length + 1) c') (L.length + 1) (L.flatMap chC ++ [.int .i64 x, ival s]))
    (HG : (w0.alloc ob).grownBy W3 (ownA A)) (HN : Newer (ownA A) (ownA A') (w0.heap.size + 1)) : ChRow base A' c' (L ++ [(x, s)]) W3 := by
  have hsw := hb.size
  have hlA : ∀ k, ownA A = some k → base ≤ k ∧ k < W.heap.size := fun k hk => hr.own.lt k (by rw [own_ownA]; exact hk)
  have hold : ∀ k, k < w0.heap.size → ownA A ≠ some k → W3.heap[k]? = w0.heap[k]? := fun k hk hkA => (HG.block k (by simp; omega) (fun e => hkA e.symm)).trans (Below.heap_alloc _ _ _ hk)
  have hnew : ∀ k, k < w0.heap.size → ownA A' = some k → ownA A = some k := fun k hk h => by
    rcases HN with e | ⟨g, e, hg⟩
    · rw [← e]; exact h
    · rw [e] at h; injection h with h; omega
  refine ⟨by rw [List.length_append, List.flatMap_append]; exact HO, fun y hy => ?_⟩
  rcases List.mem_append.1 hy with hy | hy
  · obtain ⟨hy1, hy2⟩ := hr.sets y hy
    have hl : ∀ k, ownA y.2.1 = some k → base ≤ k ∧ k < W.heap.size := fun k hk => hy1.lt k (by rw [own_ownA]; exact hk)
    refine ⟨own_keep hy1 fun k hk => (hold k (by have := hl k hk; omega) (hy2 k hk)).trans (hb.block k (hl k hk).2), fun g hg he => hy2 g hg (hnew g (by have := hl g hg; omega) he)⟩
  · obtain rfl := List.mem_singleton.1 hy
    have hl : ∀ k, ownA s.1 = some k → base ≤ k ∧ k < w0.heap.size := fun k hk => hs.lt k (by rw [own_ownA]; exact hk)
    have hnA : ∀ k, ownA s.1 = some k → ownA A ≠ some k := fun k hk he => by have := hsn k hk; have := hlA k he; omega
    exact ⟨own_keep hs fun k hk => hold k (hl k hk).2 (hnA k hk), fun g hg he => hnA g hg (hnew g (hl g hg).2 he)⟩
/-- .. of these values, as they have come -/
def ChB (Bu base : Nat) (fv : Int → List Sp) (pre : List Int) (W : World) : Prop := ∃ A c L, ChBox Bu base A c L W ∧ L.map chV = pre.map fun v => (v, fv v)
theorem ChB.own {β : Type} (B Bu base : Nat) (fv : Int → List Sp) (h : β → List Int) : OwnFrom B (fun s W => ChB Bu base fv (h s) W) := by
  rintro s X Y row ⟨A, c, L, ⟨h1, h2, h3⟩, h4⟩ hg hr
  have hr2 := fun r e => (hr r e).2
  exact ⟨A, c, L, ⟨cell_kept h1 hg hr2, (frozen_kept h1 hg hr2).trans h2, h3.turn hg hr2⟩, h4⟩
theorem ChB.start (w : World) (base : Nat) (fv : Int → List Sp) : ChB w.heap.size base fv [] (w.alloc (.cells #[.slice none 0 0] 84)) := by
  have h := cellNew w (.slice none 0 0) 84
  exact ⟨none, 0, [], ⟨h.1, h.2, ⟨World.ownsRow_nil _ _ _ _, fun x hx => by cases hx⟩⟩, rfl⟩
/-- what is at hand where a range over span.Each begins, a box of choices beside it -/
theorem each_boxC {ro : List Sp} (hp : Plain ro) {w5 w6 : World} {B g c6 : Nat} (fv : Int → List Sp) (hE : (w5.alloc (.cells #[.slice none 0 0] 84)).heap.size ≤ B ∧ B < w6.heap.size ∧ (w5.alloc (.cells #[.slice none 0 0] 84)).heap.size ≤ g ∧ g < B)
    (hcB : w6.cell? ⟨B, 0, none⟩ = some (.slice (some ⟨g, 0, none⟩) ro.length c6)) (hsp : Spans w6 (some ⟨g, 0, none⟩) ro.length ro) (hb6 : Below (w5.alloc (.cells #[.slice none 0 0] 84)).heap.size (w5.alloc (.cells #[.slice none 0 0] 84)) w6) :
    Below w5.heap.size w5 w6 ∧ ChB w5.heap.size (w5.heap.size + 1) fv [] w6 ∧ w5.heap.size + 2 < w6.heap.size ∧
    SeqStopsK Fence.wide 7 Try.prog 66 #[.pointer (some ⟨B, 0, none⟩)] (fun x : { x : Int // x ∈ nums ro } => #[Value.int .i64 x.1]) (KpB w5.heap.size (w5.heap.size + 1) w5.heap.size) (fun ys => ys.map (·.1) = nums ro) (fun pre => pre.map (·.1) <+: nums ro) (nums ro).length w6 := by
  have hsz : (w5.alloc (.cells #[.slice none 0 0] 84)).heap.size = w5.heap.size + 1 := by simp
  rw [hsz] at hE
  have HW5 := (Below.refl w5.heap.size w5).alloc (Nat.le_refl _) (.cells #[.slice none 0 0] 84)
  have h0 := cellNew w5 (.slice none 0 0) 84
  have hc : w6.cell? ⟨w5.heap.size, 0, none⟩ = some (.slice none 0 0) := (hb6.cell (p := ⟨w5.heap.size, 0, none⟩) (by simp)).trans h0.1
  have hf : w6.frozen? ⟨w5.heap.size, 0, none⟩ = false := (hb6.frozen (p := ⟨w5.heap.size, 0, none⟩) (by simp)).trans h0.2
  have hno : ∀ k, OwnB w5.heap.size (w5.heap.size + 1) w5.heap.size w6 k ↔ k = w5.heap.size := by
    intro k
    unfold OwnB
    rw [hc]
    simp; omega
  exact ⟨HW5.trans (hb6.mono (by simp)), ⟨none, 0, [], ⟨hc, hf, ⟨World.ownsRow_nil _ _ _ _, fun x hx => by cases hx⟩⟩, rfl⟩, by omega,
    each_stopsS Fence.wide 7 trivial rfl (by omega) w6.heap.size B g c6 _ (ownB_on (by omega)) ro hp w6 (Nat.le_refl _) (fun k hk => by have := (hno k).1 hk; omega) (fun hk => by have := (hno g).1 hk; omega) hcB (by omega) hsp⟩
end Go.Proofs.Ytpmhdjiacgckjaa
end
