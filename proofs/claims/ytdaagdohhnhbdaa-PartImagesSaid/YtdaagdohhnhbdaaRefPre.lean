/- Contract of umlautref03.Pre: the plain list of the numbers of a set whose values are in another one. Condition: both lists at hand are known, fewer than 2^20 spans each. -/
import Derived.Test.YtdaagdohhnhbdaaImage
import Derived.Test.YtdaagdohhnhbdaaRefLaw3
import Derived.Lib.MinMax
namespace Go.Proofs.Ytdaagdohhnhbdaa
open Go.RowKit Go.Shelf
set_option linter.unusedVariables false
set_option linter.unusedSimpArgs false

theorem rbits_st {w0 w : World} {F : World → Prop} (hK : Hid (St w0 w F)) (a d t u : Int) {v : Bool} (hv : bitsB d t u = v) : Calls Try.prog 71 #[.agg #[.int .i64 a, .int .i64 d, .int .i64 t, .int .i64 u]] w (RetV w0 (.bool v) F) := by
  subst hv; exact retV_gives hK (rBits_any a d t u w)
theorem val_bits {d t u D T U x : Int} (hb : Hid (bitsB d t u = true)) (HD : Hid (pw d = D)) (HT : Hid (pw t = T)) (HU : Hid (pw u = U)) (h0 : 0 ≤ x) : ∃ q m v : Int, x / D = q ∧ Int.tmod q T = m ∧ m * U = v ∧ 0 ≤ q ∧ (0 ≤ m ∧ m < T) ∧ (0 ≤ v ∧ v ≤ 67108864) ∧ Hid (x / D % T = m) ∧ Hid (x / D % T * U = v) := by
  have h := pval_bd hb.out x
  have hp := pw_pos d
  have hp2 := pw_pos t
  unfold pval at h
  rw [HD.out, HT.out, HU.out] at h
  rw [HD.out] at hp
  rw [HT.out] at hp2
  have hq : 0 ≤ x / D := Int.ediv_nonneg h0 (by omega)
  have e : Int.tmod (x / D) T = x / D % T := Int.tmod_eq_emod_of_nonneg hq
  exact ⟨_, _, _, rfl, e, rfl, hq, ⟨Int.emod_nonneg _ (by omega), Int.emod_lt_of_pos _ (by omega)⟩, h, rfl, rfl⟩

section
variable {w0 w : World} {F : World → Prop} {A G : Option Addr} {a0 g0 r : List Sp}
set_option maxRecDepth 100000 in
set_option maxHeartbeats 16000000 in
theorem rPre_st (hK : Hid (St w0 w F)) (ha : ∀ W, F W → Lst A a0 W) (hg : ∀ W, F W → Lst G g0 W) (hn : a0.length < 1048576) (hm : g0.length < 1048576) (c cg : Nat) (a d t u : Int) (hr : Hid (Rep r (PreS d t u a0 g0))) :
    Calls Try.prog 25 #[.agg #[.int .i64 a, .int .i64 d, .int .i64 t, .int .i64 u], .slice A a0.length c, .slice G g0.length cg] w (RetL w0 r F) := by
  have HK := St.pbox hK a d t u
  rcases hb : bitsB d t u with _ | _
  · obtain rfl := rep_none hr.out (fun x h => by have := h.1; rw [hb] at this; cases this)
    have HBB := Lib.hid hb
    clear hb
    go_enter Try.func25, Try.ntmps25
    go_wp2_with fail
    refine (rbits_st HK a d t u HBB.out).mono ?_
    rintro e w1 ⟨rfl, HK⟩
    go_wp2_with fail
    go_ret
    exact retL_nil (Lib.hid (HK.out.weaken fun W h => h.2))
  have HBB := Lib.hid hb
  obtain ⟨b1, b2, b3, b4, b5, b6, b7⟩ := (bitsB_iff _ _ _).1 hb
  obtain ⟨l, Rl⟩ := rep_norm a0
  obtain ⟨h, Rh⟩ := rep_norm g0
  have hll := Rl.out.len_le
  have hhl := Rh.out.len_le
  obtain ⟨T, hT⟩ : ∃ T, pw t = T := ⟨_, rfl⟩
  have HT := Lib.hid hT
  obtain ⟨D, hD⟩ : ∃ D, pw d = D := ⟨_, rfl⟩
  have HD := Lib.hid hD
  obtain ⟨U, hU⟩ : ∃ U, pw u = U := ⟨_, rfl⟩
  have HU := Lib.hid hU
  have hT1 : 1 ≤ T := by rw [← hT]; exact pw_pos t
  have hD1 : 1 ≤ D := by rw [← hD]; exact pw_pos d
  have H1 : Hid (Pure Try.prog 72 #[.int .i64 d] (.int .i64 D)) := Lib.hid fun w => by rw [← hD]; exact Two_any d b1 (by omega) w
  have H2 : Hid (Pure Try.prog 72 #[.int .i64 t] (.int .i64 T)) := Lib.hid fun w => by rw [← hT]; exact Two_any t (by omega) b4 w
  have H3 : Hid (Pure Try.prog 72 #[.int .i64 u] (.int .i64 U)) := Lib.hid fun w => by rw [← hU]; exact Two_any u b5 (by omega) w
  have nD : ¬ D = 0 := by omega
  have nT : ¬ T = 0 := by omega
  clear hb b7 hT hD hU
  go_enter Try.func25, Try.ntmps25
  go_wp2_with fail
  refine (rbits_st HK a d t u HBB.out).mono ?_
  rintro e w1 ⟨rfl, HK⟩
  obtain ⟨hp0, hp1, hp2, hp3⟩ := HK.out.now.1
  go_wp2_with (go_quiet ((first | (go_at_call_of 72 d; exact H1.out.quiet) | (go_at_call_of 72 t; exact H2.out.quiet) | (go_at_call_of 72 u; exact H3.out.quiet))))
  refine (rNorm_st (St.hdrewN HK _) (fun _ h => ha _ h.2) hn _ Rl).mono ?_
  rintro e w2 ⟨A2, c2, rfl, HK⟩
  clear hp0 hp1 hp2 hp3 H1 H2 H3
  go_wp2_with fail
  refine (rNorm_st HK (fun _ h => hg _ h.2.2) hm _ Rh).mono ?_
  rintro e w3 ⟨A3, c3, rfl, HK⟩
  go_wp2_with fail
  go_loopw [12, 13] (fun v i wr => ∃ (k : Nat) (o : List Sp) (Ao : Option Addr) (co : Nat), k ≤ l.length ∧ i = .int .i64 k ∧ v = .slice Ao o.length co ∧ Hid (SRow wr w3.heap.size Ao co o) ∧ Hid (RP1 D T U h l k o) ∧ Hid (Below w3.heap.size w3 wr)) (fun _ i _ => l.length - (intOf i).toNat)
  case atStart => exact ⟨0, [], none, 0, Nat.zero_le _, rfl, rfl, Lib.hid (SRow.start _ _), Lib.hid RP1.start, Lib.hid (Below.refl _ _)⟩
  case round =>
  obtain ⟨k, o, Ao, co, hk, rfl, rfl, HO, HI, HB⟩ := hrel
  have HS := Lib.hid (HK.out.step HB.out)
  by_cases hlt : k < l.length
  · obtain ⟨gb, off, p, hA, hp, hc1, hc2⟩ := HS.out.now.2.1.sp.at_ hlt
    obtain ⟨lo, hi⟩ := p
    have hpm := PlainF.spw Rl.out.1 (Int.le_refl _) _ (List.mem_of_getElem? hp)
    have HP := Lib.hid hp
    simp only at hc1 hc2 hpm
    have HC1 := Lib.hid hc1
    have HC2 := Lib.hid (show w3.cell? ⟨gb, off + k * 2 + 1, none⟩ = some (.int .i64 hi) by
      obtain ⟨gb', off', p', hA', hp', hd1, hd2⟩ := HK.out.now.2.1.sp.at_ hlt
      rw [hA] at hA'
      injection hA' with e
      injection e with e1 e2 e3
      subst e1; subst e2
      rw [hp] at hp'
      injection hp' with e
      subst e
      exact hd2)
    subst hA
    clear hp
    obtain ⟨x0, hx0⟩ : ∃ z, max lo 0 = z := ⟨_, rfl⟩
    have HI2 := Lib.hid (HI.out.go HP.out hpm.2.1)
    rw [hx0] at HI2
    have hx00 : 0 ≤ x0 := by omega
    go_wp2_with fail
    go_loopw [12, 14] (fun v j wr2 => ∃ (x : Int) (o2 : List Sp) (Ao2 : Option Addr) (co2 : Nat), x0 ≤ x ∧ j = .int .i64 x ∧ v = .slice Ao2 o2.length co2 ∧ Hid (SRow wr2 w3.heap.size Ao2 co2 o2) ∧ Hid (RP2 D T U h l k lo hi x o2) ∧ Hid (Below w3.heap.size w3 wr2)) (fun _ j _ => (hi + 1 - intOf j).toNat)
    case atStart => exact ⟨x0, o, Ao, co, Int.le_refl _, rfl, rfl, HO, HI2, HB⟩
    case round =>
    obtain ⟨x, o2, Ao2, co2, hxx, rfl, rfl, HO2, HIX, HB2⟩ := hrel
    have hd2 := (HB2.out.cell (lt_of_cell HC2.out)).trans HC2.out
    by_cases hx1 : x ≤ hi
    · by_cases hx2 : x < 2097152
      · obtain ⟨q, m, v, n1, n2, n3, n4, ⟨n5, n6⟩, ⟨n7, n8⟩, N9, N10⟩ := val_bits HBB HD HT HU (show 0 ≤ x by omega)
        have HHAS := Lib.hid (rHas_any A3 h.length c3 h v wr ((HK.out.step HB2.out).now.1.sp) (by omega))
        have hol := HIX.out.len
        rcases hv : hasB h v with _ | _
        · rw [hv] at HHAS
          have HIN := Lib.hid (HIX.out.skip hx1 hx2 (by rw [N10.out, ← hasB_iff, hv]; simp))
          clear hv
          go_wp2_with (go_at_call 59; refine HHAS.out.mono ?_; rintro e w' ⟨rfl, rfl⟩)
          exact ⟨⟨x + 1, o2, Ao2, co2, by omega, rfl, rfl, HO2, HIN, HB2⟩, by simp [intOf]; omega⟩
        · rw [hv] at HHAS
          have HMM := Lib.hid (show Mem h (x / D % T * U) by rw [N10.out, ← hasB_iff, hv])
          clear hv
          rcases snoc_cases o2 with rfl | ⟨ol, oq, rfl⟩
          · have HIN := Lib.hid (HIX.out.took hx1 hx2 HMM.out (HIX.out.now.push (by omega) (by omega) (fun m q e => by simp at e)))
            go_wp2_with (first | (go_at_call 59; refine HHAS.out.mono ?_; rintro e w' ⟨rfl, rfl⟩) | (at_builtin; go_must (refine wpList_pushS rfl _ _ rfl HO2.out rfl (by first | rfl | (simp; rfl) | simp) (by simp) HB2.out.size ?_); intro l2 A4 c4 w5 HL2 HO5 HG2 HAT2))
            rw [← HL2.out] at HIN
            exact ⟨⟨x + 1, l2, A4, c4, by omega, rfl, rfl, HO5, HIN, Lib.hid (SRow.pushed HB2.out HO2.out (Nat.le_refl _) HB2.out.size HG2.out)⟩, by simp [intOf]; omega⟩
          · obtain ⟨g2, cap2, hv2, hb2, hl2⟩ := HO2.out.form (by simp)
            obtain ⟨rfl, rfl⟩ : Ao2 = some ⟨g2, 0, none⟩ ∧ co2 = cap2 := by injection hv2 with h1 h2 h3; exact ⟨h1, h3⟩
            clear hv2
            have hol1 : ol.length ≤ 2097152 := by rw [List.length_append] at hol; simp at hol; omega
            have hq1 : wr.cell? ⟨g2, ol.length * 2 + 1, none⟩ = some (.int .i64 oq.2) := by
              rw [HO2.out.cellAt _ (by simp; omega)]
              exact (spanCells_at (ol ++ [oq]) ol.length oq (by simp)).2
            have hqf := HO2.out.frozenAt (ol.length * 2 + 1)
            obtain ⟨hst, _⟩ := HO2.out.stored (ol.length * 2 + 1) (.int .i64 x)
            rw [spanCells_set] at hst
            have HST := Lib.hid hst
            clear hst
            have hqb := (PlainF.last HIX.out.now.1).2.2
            have HLEN : Hid ((ol ++ [oq]).length = ol.length + 1) := by unfold Hid; simp
            have HLEN2 : Hid ((ol ++ [(oq.1, x)]).length = ol.length + 1) := by unfold Hid; simp
            have hoq0 : -1073741824 ≤ oq.2 := by have := PlainF.last HIX.out.now.1; omega
            by_cases hmg : oq.2 = x - 1
            · have HIN := Lib.hid (HIX.out.took hx1 hx2 HMM.out (RP.merge (q1 := oq.1) (m := ol) (by have := HIX.out.now; rw [← hmg]; exact this) (by omega)))
              have hbq : (oq.2 == x - 1) = true := by simpa using hmg
              rw [HLEN.out] at HST ⊢
              clear hmg
              go_wp2_with (go_at_call 59; refine HHAS.out.mono ?_; rintro e w' ⟨rfl, rfl⟩)
              exact ⟨⟨x + 1, ol ++ [(oq.1, x)], some ⟨g2, 0, none⟩, co2, by omega, rfl, by rw [HLEN2.out], Lib.hid (by unfold SRow; rw [HLEN2.out]; exact HST.out), HIN, Lib.hid (HB2.out.setCell hb2 _)⟩, by simp [intOf]; omega⟩
            · have HIN := Lib.hid (HIX.out.took hx1 hx2 HMM.out (HIX.out.now.push (by omega) (by omega) (fun m q e => by
                have := List.append_inj_right' e rfl
                simp at this
                rw [← this]; exact hmg)))
              have hbq : (oq.2 == x - 1) = false := by simpa using hmg
              clear hmg
              obtain ⟨ol2, hol2⟩ : ∃ z, ol ++ [oq] = z := ⟨_, rfl⟩
              rw [hol2] at HO2 HIN HLEN hol ⊢
              have hlen := HLEN.out
              clear hol2 HST HLEN2
              go_wp2_with (first | (go_at_call 59; refine HHAS.out.mono ?_; rintro e w' ⟨rfl, rfl⟩) | (at_builtin; go_must (refine wpList_pushS rfl _ _ rfl HO2.out (by show Value.slice (some ⟨g2, 0, none⟩) (ol.length + 1) co2 = _; rw [HLEN.out]) (by first | rfl | (simp; rfl) | simp) (by omega) HB2.out.size ?_); intro l2 A4 c4 w5 HL2 HO5 HG2 HAT2))
              rw [← HL2.out] at HIN
              exact ⟨⟨x + 1, l2, A4, c4, by omega, rfl, rfl, HO5, HIN, Lib.hid (SRow.pushed HB2.out HO2.out (Nat.le_refl _) HB2.out.size HG2.out)⟩, by simp [intOf]; omega⟩
      · have HIN := Lib.hid (HIX.out.done Rl.out.1 HP.out (.inr (by omega)))
        have hx2' : ¬ x < 2097152 := hx2
        go_wp2_with fail
        exact ⟨⟨k + 1, o2, Ao2, co2, by omega, by go_num, rfl, HO2, HIN, HB2⟩, by simp [intOf]; omega⟩
    · have HIN := Lib.hid (HIX.out.done Rl.out.1 HP.out (.inl (by omega)))
      have hx1' : ¬ x ≤ hi := hx1
      go_wp2_with fail
      exact ⟨⟨k + 1, o2, Ao2, co2, by omega, by go_num, rfl, HO2, HIN, HB2⟩, by simp [intOf]; omega⟩
  · obtain rfl : k = l.length := by omega
    have hd : decide (l.length < l.length) = false := by simp
    have HIp : Hid (RP1 (pw d) (pw t) (pw u) h l l.length o) := by unfold Hid; rw [HD.out, HT.out, HU.out]; exact HI.out
    obtain rfl := Rep.unique (HIp.out.rep HBB.out Rl.out Rh.out) hr.out (fun _ => Iff.rfl)
    go_wp2_with fail
    go_ret
    exact ⟨_, _, rfl, Lib.hid ((HK.out.add HB.out (hr.out.1.lst HO.out.spans)).weaken fun W h => ⟨h.1, h.2.2.2.2⟩)⟩
end
end Go.Proofs.Ytdaagdohhnhbdaa
