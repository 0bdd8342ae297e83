/- Contract of term.Value: a term's value of a window, or that it has none. Condition: the term's numbers are right; the parts and the window are known. umlautlaw12.BoxFinds: the walk. Of any window of the guards it is told by just one box, or none, whether the term's value is in the set; ErrArg and ErrLong are answered where they may be. Condition: none beyond the row's own. Contract of umlautref04.Plains: the guards' symbols as plain lists. Condition: the guards are known. Contract of umlautref04.Windows at 1000: how many windows guards have, as far as is counted. Condition: the guards are known. -/
import Derived.Test.YtpmhdjiacgckjaaM23
import Derived.Test.YtpmhdjiacgckjaaM09
import Derived.Lib.MinMax
section
namespace Go.Proofs.Ytpmhdjiacgckjaa
open Go.RowKit
set_option linter.unusedVariables false
set_option linter.unusedSimpArgs false
section
variable {w0 w : World} {F : World → Prop} {A : Option Addr} {l : List PartL}
set_option maxRecDepth 100000 in
set_option maxHeartbeats 16000000 in
theorem tVal_st (hK : Hid (St w0 w F)) (hp : ∀ W, F W → PartsAt A l W) (b d t u s : Int) (c : Nat) {B : Option Addr} {xs : List Int} (hb : ∀ W, F W → RunesAt B xs W) (cB : Nat) (hn : Hid (NumsOk ⟨b, d, t, u, s, l⟩)) (ok : Bool) (hv : Hid (pB (ValOk ⟨b, d, t, u, s, l⟩ xs) = ok)) (z : Int) (hz : Hid ((if ok = true then valN ⟨b, d, t, u, s, l⟩ xs else 0) = z)) :
    Calls Try.prog 26 #[.agg #[.int .i64 b, .int .i64 d, .int .i64 t, .int .i64 u, .int .i64 s, .slice A l.length c], .slice B xs.length cB] w
      (RetV w0 (.tuple #[.int .i64 z, .bool ok]) F) := by
  have HP := Lib.hid hp
  have HB := Lib.hid hb
  have hlx := (hb _ hK.out.now).ln
  have hl4 : l.length ≤ 4 := hn.out.2.2.2.2
  have HK := St.box hK [.int .i64 b, .int .i64 d, .int .i64 t, .int .i64 u, .int .i64 s, .slice A l.length c] 24
  clear hp hb
  go_enter Try.func26, Try.ntmps26
  go_wp2_with fail
  go_loopw [17] (fun i wr => ∃ k : Nat, k ≤ xs.length ∧ i = .int .i64 k ∧ Hid (∀ x ∈ xs.take k, 0 ≤ x ∧ x ≤ 1114111) ∧ Hid (St w0 wr (fun W => BoxC w.heap.size [.int .i64 b, .int .i64 d, .int .i64 t, .int .i64 u, .int .i64 s, .slice A l.length c] W ∧ F W))) (fun i _ => xs.length - (intOf i).toNat)
  case atStart => exact ⟨0, Nat.zero_le _, rfl, Lib.hid (fun p hp => by simp at hp), HK⟩
  case round =>
  clear HK
  obtain ⟨k, hk, rfl, HR, HK⟩ := hrel
  by_cases hlt : k < xs.length
  · obtain ⟨xb, xo, x, rfl, hx, hrw, hxc⟩ := (HB.out _ HK.out.now.2).at_ hlt
    have HX := Lib.hid hx
    clear hx
    by_cases h1 : x < 0
    · obtain rfl := pB_f hv (fun h => by have := (h.1 x (List.mem_of_getElem? HX.out)).1; omega)
      obtain rfl : (0 : Int) = z := hz.out
      go_wp2_with fail
      go_ret2
      exact ⟨rfl, Lib.hid (HK.out.weaken fun _ h => h.2)⟩
    by_cases h2 : 1114111 < x
    · obtain rfl := pB_f hv (fun h => by have := (h.1 x (List.mem_of_getElem? HX.out)).2; omega)
      obtain rfl : (0 : Int) = z := hz.out
      go_wp2_with fail
      go_ret2
      exact ⟨rfl, Lib.hid (HK.out.weaken fun _ h => h.2)⟩
    have HN : Hid (∀ p ∈ xs.take (k + 1), 0 ≤ p ∧ p ≤ 1114111) := Lib.hid fun q hq => by
      rw [take_snoc? HX.out] at hq
      rcases List.mem_append.1 hq with hq | hq
      · exact HR.out q hq
      · simp at hq; subst hq; omega
    go_wp2_with fail
    go_roundw
    case rel => exact ⟨k + 1, by omega, by go_num, HN, HK⟩
    case measure => simp [intOf]; omega
  · obtain rfl : k = xs.length := by omega
    have hd : decide (xs.length < xs.length) = false := by simp
    have HW : Hid (WinOk xs) := Lib.hid (by have := HR.out; rwa [List.take_length] at this)
    obtain ⟨q0, q1, q2, q3, q4, q5⟩ := HK.out.now.1.c6
    have HSN : Hid (SmallN s ∧ SmallN b ∧ BitsOk d t u) := Lib.hid ⟨hn.out.2.1, hn.out.1, hn.out.2.2.1⟩
    go_wp2_with fail
    clear q0 q1 q2 q3 q4 q5 hd
    go_loopw [8, 33] (fun v i wr => ∃ k : Nat, k ≤ l.length ∧ i = .int .i64 k ∧ v = .int .i64 (innerTo ⟨b, d, t, u, s, l⟩ xs k) ∧ Hid (∀ p ∈ l.take k, PartOk xs.length p) ∧ Hid (St w0 wr (fun W => BoxC w.heap.size [.int .i64 b, .int .i64 d, .int .i64 t, .int .i64 u, .int .i64 s, .slice A l.length c] W ∧ F W))) (fun _ i _ => l.length - (intOf i).toNat)
    case atStart => exact ⟨0, Nat.zero_le _, rfl, by simp [innerTo], Lib.hid (fun p hp => by simp at hp), HK⟩
    case round =>
    clear HK
    obtain ⟨k, hk, rfl, rfl, HR2, HK⟩ := hrel
    have hc5 := HK.out.now.1 5 _ rfl
    by_cases hlt : k < l.length
    · obtain ⟨pb, off, p, hA, hx, hw, hd0, hd1, hd2, hd3⟩ := (HP.out _ HK.out.now.2).at_ hlt
      obtain ⟨x1, x2, x3, x4⟩ := p
      simp only at hd0 hd1 hd2 hd3
      subst hA
      have HX := Lib.hid hx
      clear hx hw hc5
      have HKp := St.box HK [.int .i64 x1, .int .i64 x2, .int .i64 x3, .int .i64 x4] 56
      by_cases a2 : PartOk xs.length (x1, x2, x3, x4)
      · have H2 := Lib.hid (pB_true a2)
        have HN : Hid (∀ p ∈ l.take (k + 1), PartOk xs.length p) := Lib.hid fun q hq => by
          rw [take_snoc? HX.out] at hq
          rcases List.mem_append.1 hq with hq | hq
          · exact HR2.out q hq
          · simp at hq; subst hq; exact a2
        obtain ⟨h10, h11, _⟩ := a2
        obtain ⟨a, rfl⟩ := Int.eq_ofNat_of_zero_le h10
        have hal : a < xs.length := by omega
        obtain ⟨xb, xo, x, hB, hx, hrw, hxc⟩ := (HB.out _ HK.out.now.2).at_ hal
        obtain ⟨hx0, hx1⟩ := HW.out x (List.mem_of_getElem? hx)
        have hwx : wrap64 x = x := by unfold wrap64; omega
        have HWX : Hid (IntKind.i64.wrap x = x) := Lib.hid (IntWalk.i64_in x (by omega))
        obtain ⟨vv, hvv⟩ : ∃ vv, vNum x2 x3 x4 x = vv := ⟨_, rfl⟩
        obtain ⟨vo, hvo⟩ : ∃ vo, vOk x2 x3 x4 x = vo := ⟨_, rfl⟩
        have hk4 : k + 1 ≤ 4 := by omega
        have hbd := innerTo_bd (t := ⟨b, d, t, u, s, l⟩) HSN.out.1 xs (k + 1) hk4
        have hnext := innerTo_next (t := ⟨b, d, t, u, s, l⟩) (w := xs) HX.out
        have hvP : vP (((a : Int), x2, x3, x4) : PartL) (xs.getD ((a : Int)).toNat 0) = vv := by
          rw [Int.toNat_natCast, List.getD_eq_getElem?_getD, hx]; exact hvv
        have hnext : innerTo ⟨b, d, t, u, s, l⟩ xs (k + 1) = innerTo ⟨b, d, t, u, s, l⟩ xs k + vv := by rw [hnext]; congr 1
        obtain ⟨i0, hi0⟩ : ∃ i0, innerTo ⟨b, d, t, u, s, l⟩ xs k = i0 := ⟨_, rfl⟩
        obtain ⟨i1, hi1⟩ : ∃ i1, innerTo ⟨b, d, t, u, s, l⟩ xs (k + 1) = i1 := ⟨_, rfl⟩
        rw [hi1] at hbd
        rw [hi0, hi1] at hnext
        have hwi : wrap64 (i0 + vv) = i1 := by rw [← hnext]; unfold wrap64; omega
        have HI1 := Lib.hid hi1
        have HKx := Lib.hid (HKp.out.add (Below.refl _ _) (G := fun W => W.cell? ⟨xb, xo + a, none⟩ = some (.int .i32 x)) (fun W hW => by
          have h1 : (wr.alloc (.cells [Value.int .i64 (a : Int), .int .i64 x2, .int .i64 x3, .int .i64 x4].toArray 56)).cell? ⟨xb, xo + a, none⟩ = some (.int .i32 x) := (((Below.refl wr.heap.size wr).alloc (Nat.le_refl _) _).cell (p := ⟨xb, xo + a, none⟩) (lt_of_cell hxc)).trans hxc
          exact (hW.cell (p := ⟨xb, xo + a, none⟩) (lt_of_cell h1)).trans h1))
        rw [hi0]
        subst hB
        clear hx hrw hxc hbd hnext hvP h10 h11 hi0 hi1
        go_wp2_with (go_at_call 46; refine (PRight_st HKx a x2 x3 x4 xs.length true H2).mono ?_; rintro e w5 ⟨rfl, HK5⟩)
        have HK6 := St.hdrewN HK5 1
        have hai : (a : Int) < xs.length := by omega
        have ha0 : (0 : Int) ≤ a := by omega
        have HVV := Lib.hid hvv
        have HVO := Lib.hid hvo
        have HWI := Lib.hid hwi
        have HLT := Lib.hid hlt
        clear hvv hvo hwi hal hk4 hlt hx1
        go_region_held3 (fun W => W.cell? ⟨wr.heap.size, 0, none⟩ = some (.int .i64 (a : Int)) ∧ W.cell? ⟨wr.heap.size, 1, none⟩ = some (.int .i64 x2) ∧ W.cell? ⟨wr.heap.size, 2, none⟩ = some (.int .i64 x3) ∧ W.cell? ⟨wr.heap.size, 3, none⟩ = some (.int .i64 x4) ∧ W.cell? ⟨xb, xo + a, none⟩ = some (.int .i32 x))
          (first | exact flat4 HK6.out.now.2.1.c4 HK6.out.now.1 | exact flat4 HK7.out.now.2.1.c4 HK7.out.now.1 | go_keep)
          ((go_at_call 47; (try rw [HWX.out]); refine (Value_st HK6 (a : Int) x2 x3 x4 x HVV.out HVO.out).mono ?_; rintro e7 w7 ⟨rfl, HK7⟩))
        go_wp2_with fail
        have HE : Hid (wrap64 (i0 + vv) = innerTo ⟨b, d, t, u, s, l⟩ xs (k + 1)) := Lib.hid (HWI.out.trans HI1.out.symm)
        go_roundw
        case rel => exact ⟨k + 1, by have := HLT.out; omega, by go_num, by rw [HE.out], HN, Lib.hid (HK7.out.weaken fun _ h => h.2.2)⟩
        case measure => have := HLT.out; simp [intOf]; omega
      · have H2 := Lib.hid (pB_false a2)
        obtain rfl := pB_f hv (fun h => a2 (h.2.1 _ (List.mem_of_getElem? HX.out)))
        obtain rfl : (0 : Int) = z := hz.out
        clear a2
        go_wp2_with (go_at_call 46; refine (PRight_st HKp x1 x2 x3 x4 xs.length false H2).mono ?_; rintro e w5 ⟨rfl, HK5⟩)
        go_ret2
        exact ⟨rfl, Lib.hid (HK5.out.weaken fun _ h => h.2.2)⟩
    · obtain rfl : k = l.length := by omega
      have hd : decide (l.length < l.length) = false := by simp
      have HPO : Hid (∀ p ∈ l, PartOk xs.length p) := Lib.hid (by have := HR2.out; rwa [List.take_length] at this)
      obtain ⟨iv, hiv⟩ : ∃ iv, innerTo ⟨b, d, t, u, s, l⟩ xs l.length = iv := ⟨_, rfl⟩
      have HIV : Hid (innerT ⟨b, d, t, u, s, l⟩ xs = iv) := Lib.hid hiv
      rw [hiv]
      clear hiv hc5
      have q5 := HK.out.now.1 5 _ rfl
      by_cases h2 : 1114111 < iv
      · obtain rfl := pB_f hv (fun h => by have := h.2.2.2.1; rw [HIV.out] at this; omega)
        obtain rfl : (0 : Int) = z := hz.out
        go_wp2_with fail
        go_ret2
        exact ⟨rfl, Lib.hid (HK.out.weaken fun _ h => h.2)⟩
      obtain ⟨vv, hvv⟩ : ∃ vv, vNum d t u iv = vv := ⟨_, rfl⟩
      obtain ⟨vo, hvo⟩ : ∃ vo, vOk d t u iv = vo := ⟨_, rfl⟩
      have HVV := Lib.hid hvv
      have HVO := Lib.hid hvo
      have hvb := vNum_bd d t u iv
      rw [hvv] at hvb
      have hwb : wrap64 (b + vv) = b + vv := by
        have g1 := HSN.out.2.1.1
        have g2 := HSN.out.2.1.2
        unfold wrap64
        omega
      obtain ⟨p0, p1, p2, p3, p4, _⟩ := HK.out.now.1.c6
      clear hvv hvo hvb
      go_wp2_with fail
      refine (retV_gives HK (outer_any b d t u s A l.length c _)).mono ?_
      rintro e w5 ⟨rfl, HK5⟩
      go_wp2_with fail
      refine (Value_st HK5 0 d t u iv HVV.out HVO.out).mono ?_
      rintro e w6 ⟨rfl, HK6⟩
      have p0 := HK6.out.now.1 0 _ rfl
      rcases vo with _ | _
      · obtain rfl := pB_f hv (fun h => by have := h.2.2.2.2; rw [HIV.out, HVO.out] at this; cases this)
        obtain rfl : (0 : Int) = z := hz.out
        go_wp2_with fail
        go_ret2
        exact ⟨rfl, Lib.hid (HK6.out.weaken fun _ h => h.2)⟩
      · obtain rfl := pB_t hv ⟨HW.out, HPO.out, by rw [HIV.out]; exact ((vOk_iff _ _ _ _).1 HVO.out).2.1, by rw [HIV.out]; omega, by rw [HIV.out]; exact HVO.out⟩
        have hzz : z = wrap64 (b + vv) := by
          have := hz.out
          rw [hwb]
          rw [if_pos rfl] at this
          rw [← this]; unfold valN; rw [HIV.out]; show b + vNum d t u iv = _; rw [HVV.out]
        subst hzz
        clear hwb
        go_wp2_with fail
        go_ret2
        exact ⟨rfl, Lib.hid (HK6.out.weaken fun _ h => h.2)⟩
end
end Go.Proofs.Ytpmhdjiacgckjaa
end
section
namespace Go.Proofs.Ytpmhdjiacgckjaa
open Go.RowKit
set_option linter.unusedVariables false
set_option linter.unusedSimpArgs false
theorem cntB_snoc (B : List (List (List Sp))) (x : List (List Sp)) (w : List Int) (v : Bool) (hv : pB (hitM x w) = v) : cntB (B ++ [x]) w = cntB B w + if v = true then 1 else 0 := by
  unfold cntB
  rw [List.filter_append, List.length_append]
  congr 1
  by_cases h : hitM x w
  · obtain rfl : v = true := hv.symm.trans (pB_true h)
    simp [h]
  · obtain rfl : v = false := hv.symm.trans (pB_false h)
    simp [h]
theorem cntB_le (B : List (List (List Sp))) (w : List Int) : cntB B w ≤ B.length := by
  unfold cntB; exact List.length_filter_le _ _
theorem RunesAt.cellR {pb po : Nat} {l : List Int} {V : World} (h : RunesAt (some ⟨pb, po, none⟩) l V) {k : Nat} {x : Int} (hx : l[k]? = some x) : V.cell? ⟨pb, po + k, none⟩ = some (.int .i32 x) := by
  obtain ⟨b, off, y, hA, hy, _, hc⟩ := h.at_ (j := k) (List.getElem?_eq_some_iff.1 hx).1
  injection hA with hA; injection hA with e1 e2
  subst e1; subst e2
  rw [hx] at hy; injection hy with hy; subst hy
  exact hc
def F12 (A : Option Addr) (L : List Lst3) (G : Option Addr) (gl : List Sp) (pa : Option Addr) (ps : List PartL) (W : World) : Prop := PartsAt pa ps W ∧ LLx A L W ∧ Lst G gl W
set_option maxRecDepth 100000 in
set_option maxHeartbeats 32000000 in
theorem BoxFinds_walk (b d t u s : Int) (pa : Option Addr) (pc : Nat) (ps : List PartL) (A : Option Addr) (n c : Nat) (L : List Lst3) (G : Option Addr) (m cg : Nat) (gl : List Sp) (B : Option Addr) (cB : Nat) (xs : List Int) (w : World)
    (hI : I64 b ∧ I64 d ∧ I64 t ∧ I64 u ∧ I64 s) (hP : PartsAt pa ps w) (hs : SssIn w A n L) (hsg : Spans w G m gl) (hwg : SpW gl) (hng : m ≤ 9223372036854775807) (hr : RunesAt B xs w) (hl : xs.length ≤ cB) (hc : cB ≤ 9223372036854775807) :
    Calls Try.prog 3 #[.agg #[.int .i64 b, .int .i64 d, .int .i64 t, .int .i64 u, .int .i64 s, .slice pa ps.length pc], .slice A n c, .slice G m cg, .slice B xs.length cB] w fun e w' => e = .returned (.bool true) ∧ Below w.heap.size w w' := by
  obtain rfl := hsg.len
  obtain rfl := hs.1.len
  have HK0 : Hid (St w w (fun V => PartsAt pa ps V ∧ SssIn V A L.length L ∧ Spans V G gl.length gl ∧ RunesAt B xs V)) := Lib.hid (St.start fun V hV => ⟨hP.below hV, ⟨Items.below hs.1 SpI.lasts hV, hs.2⟩, hsg.below hV, hr.below hV⟩)
  have HK := St.box HK0 [.int .i64 b, .int .i64 d, .int .i64 t, .int .i64 u, .int .i64 s, .slice pa ps.length pc] 24
  have hps := hP.ln
  have HWG := Lib.hid hwg
  obtain ⟨q0, q1, q2, q3, q4, q5⟩ := HK.out.now.1.c6
  have HI := Lib.hid hI
  have HG8 := Lib.hid (great12_st HK (fun _ h => h.2.2.1) b d t u s pa ps.length pc hps c G gl.length cg)
  clear hI hP hs hsg hwg hng hr hl hc hps
  go_enter Try.func3, Try.ntmps3
  go_wp2_with fail
  refine HG8.out.mono ?_
  rintro e w1 ⟨v, rfl, HV, HK1⟩
  clear HG8 q0 q1 q2 q3 q4 q5
  have HKA : Hid (St w w1 (fun _ => True)) := Lib.hid (HK1.out.weaken fun _ _ => trivial)
  cases v with
  | true =>
    go_wp2_with fail
    refine (awake12_st HKA).mono ?_
    rintro e w9 ⟨rfl, HK9⟩
    go_wp2_with fail
    go_ret
    exact ⟨rfl, HK9.out.2⟩
  | false =>
  by_cases hx20 : 20 < xs.length
  · have hx20' : (xs.length : Int) > 20 := by omega
    go_wp2_with fail
    refine (awake12_st HKA).mono ?_
    rintro e w9 ⟨rfl, HK9⟩
    go_wp2_with fail
    go_ret
    exact ⟨rfl, HK9.out.2⟩
  have hx20' : ¬ (xs.length : Int) > 20 := by omega
  have hgr := HV.out rfl
  obtain ⟨hg1, hg2, hg3, hg4⟩ := hgr
  have HK2 : Hid (St w w1 (fun V => F12 A L G gl pa ps V ∧ RunesAt B xs V ∧ BoxC w.heap.size [.int .i64 b, .int .i64 d, .int .i64 t, .int .i64 u, .int .i64 s, .slice pa ps.length pc] V)) := Lib.hid (HK1.out.weaken fun V h => ⟨⟨h.2.1, ⟨⟨h.2.2.1.1.sl, fun i hi => SpI.lst (h.2.2.1.1.it i hi) (hg4 i hi)⟩, h.2.2.1.2⟩, ⟨h.2.2.2.1, HWG.out, by omega⟩⟩, h.2.2.2.2, h.1⟩)
  obtain ⟨q0, q1, q2, q3, q4, q5⟩ := HK2.out.now.2.2.c6
  obtain ⟨r, hr⟩ : ∃ r, boxesR ⟨b, d, t, u, s, ps⟩ (bodies L) gl = r := ⟨_, rfl⟩
  have hbx := Boxes_st HK2 (fun _ h => h.1.1) (fun _ h => h.1.2.1) (fun _ h => h.1.2.2) b d t u s HI.out.1 HI.out.2.2.2.2 pc c cg (by omega)
  rw [hr] at hbx
  have HBX := Lib.hid hbx
  have HR := Lib.hid hr
  have HG4 := Lib.hid hg4
  clear hbx hr HK HK1 HK0 HV hg4
  go_wp2_with fail
  refine HBX.out.mono ?_
  rintro e w2 ⟨A2, R, c2, rfl, hR, HK3⟩
  clear HBX q0 q1 q2 q3 q4 q5
  have HRR := Lib.hid hR
  obtain ⟨q0, q1, q2, q3, q4, q5⟩ := HK3.out.now.2.2.2.c6
  obtain ⟨v2, hv2⟩ : ∃ v, pB (BoxOk (L.length : Int) ⟨b, d, t, u, s, ps⟩) = v := ⟨_, rfl⟩
  have HV2 := Lib.hid hv2
  clear hR hv2
  go_wp2_with fail
  refine (lright_st HK3 (fun _ h => h.2.1.1) b d t u s pc (L.length : Int) v2 HV2).mono ?_
  rintro e w3 ⟨rfl, HK4⟩
  clear q0 q1 q2 q3 q4 q5
  have HKA : Hid (St w w3 (fun _ => True)) := Lib.hid (HK4.out.weaken fun _ _ => trivial)
  cases v2 with
  | false =>
    have hno : ¬ BoxOk ((bodies L).length : Int) ⟨b, d, t, u, s, ps⟩ := by rw [bodies_length]; exact fun h => by have := pB_true h; rw [HV2.out] at this; cases this
    have hr1 : r = (1, []) := by
      rw [← HR.out]; unfold boxesR; rw [if_pos hno]
    have hR0 : R = [] := by
      have h := HRR.out
      rw [hr1] at h
      exact List.length_eq_zero_iff.1 (by rw [← bodies2_length, h]; rfl)
    subst hR0
    subst hr1
    go_wp2_with fail
    refine (awake12_st HKA).mono ?_
    rintro e w9 ⟨rfl, HK9⟩
    go_wp2_with fail
    go_ret
    exact ⟨rfl, HK9.out.2⟩
  | true =>
  have HOK : Hid (BoxOk ((bodies L).length : Int) ⟨b, d, t, u, s, ps⟩) := Lib.hid (by rw [bodies_length]; exact pB_iff.1 HV2.out)
  rcases boxes_cases (T := ⟨b, d, t, u, s, ps⟩) (Gs := bodies L) (gl := gl) with hq | hq | ⟨Bx, hq⟩
  · exact absurd HOK.out (boxes_arg.1 (by rw [hq]))
  · have hr1 : r = (4, []) := by rw [← HR.out]; exact hq
    have hR0 : R = [] := by
      have h := HRR.out
      rw [hr1] at h
      exact List.length_eq_zero_iff.1 (by rw [← bodies2_length, h]; rfl)
    have HNC : Hid (¬ CalmOk ps.length L) := Lib.hid fun h => by
      obtain ⟨B2, h2, _⟩ := boxes_calm (gl := gl) HOK.out (h.imp (fun h => ⟨h.1, fun g hg => by obtain ⟨i, hi, rfl⟩ := List.mem_map.1 hg; exact h.2 i hi⟩) id)
      rw [h2] at hq; cases hq
    subst hR0
    subst hr1
    obtain ⟨q0, q1, q2, q3, q4, q5⟩ := HK4.out.now.2.2.2.c6
    have HCA := Lib.hid (calm_st HK4 (fun _ h => h.2.1.2.1) HG4.out b d t u s pa ps.length pc c)
    clear hq
    go_wp2_with fail
    refine HCA.out.mono ?_
    rintro e w4 ⟨v3, rfl, HV3, HK5⟩
    obtain rfl : v3 = false := by
      cases v3 with
      | false => rfl
      | true => exact absurd (HV3.out rfl) HNC.out
    have HKA : Hid (St w w4 (fun _ => True)) := Lib.hid (HK5.out.weaken fun _ _ => trivial)
    clear HCA q0 q1 q2 q3 q4 q5
    go_wp2_with fail
    refine (awake12_st HKA).mono ?_
    rintro e w9 ⟨rfl, HK9⟩
    go_wp2_with fail
    go_ret
    exact ⟨rfl, HK9.out.2⟩
  have hr1 : r = (0, Bx) := by rw [← HR.out]; exact hq
  have HSA : Hid (BoxSaid ⟨b, d, t, u, s, ps⟩ (bodies L) gl Bx) := Lib.hid (boxes_said HOK.out hq)
  subst hr1
  have HB2 : Hid (bodies2 R = Bx) := HRR
  have hRl : R.length ≤ 4096 := by have h := HSA.out.few; rw [← HB2.out, bodies2_length] at h; exact h
  clear hq
  go_wp2_with fail
  go_loopw [11, 12] (fun nv iv wr => ∃ (k m : Nat), k ≤ R.length ∧ iv = .int .i64 k ∧ nv = .int .i64 m ∧ m ≤ k ∧ Hid (cntB ((bodies2 R).take k) xs = m) ∧ Hid (St w wr (fun V => RowsX A2 R V ∧ F12 A L G gl pa ps V ∧ RunesAt B xs V ∧ BoxC w.heap.size [.int .i64 b, .int .i64 d, .int .i64 t, .int .i64 u, .int .i64 s, .slice pa ps.length pc] V))) (fun _ iv _ => R.length - (intOf iv).toNat)
  case atStart => exact ⟨0, 0, Nat.zero_le _, rfl, rfl, Nat.le_refl _, Lib.hid (cntB_nil xs), HK4⟩
  case round =>
  clear HK2 HK3 HK4 HKA
  obtain ⟨k, m, hk, rfl, rfl, hmk, HCN, HK5⟩ := hrel
  by_cases hlt : k < R.length
  · obtain ⟨rb, ro, ba, bc, bx, rfl, hRi, hbi, hcr, _⟩ := HK5.out.now.1.at_ hlt
    obtain ⟨v, hv⟩ : ∃ v, pB (hitM (bodies bx) xs) = v := ⟨_, rfl⟩
    have HVI := Lib.hid hv
    have HRI := Lib.hid hRi
    have HC1 : Hid (cntB ((bodies2 R).take (k + 1)) xs = m + if v = true then 1 else 0) := Lib.hid (by rw [take_snoc? hbi, cntB_snoc _ _ _ v hv, HCN.out])
    clear hv hRi hbi
    cases v with
    | true =>
      go_wp2_with (go_at_call 13; refine (In_st HK5 (fun _ h => (Items.cell h.1.1 HRI.out).2) (fun _ h => h.2.2.1) bc cB true HVI).mono ?_; rintro e w6 ⟨rfl, HK6⟩)
      exact ⟨⟨k + 1, m + 1, by omega, by go_num, by go_num, by omega, Lib.hid (by rw [HC1.out]; rfl), HK6⟩, by simp [intOf]; omega⟩
    | false =>
      go_wp2_with (go_at_call 13; refine (In_st HK5 (fun _ h => (Items.cell h.1.1 HRI.out).2) (fun _ h => h.2.2.1) bc cB false HVI).mono ?_; rintro e w6 ⟨rfl, HK6⟩)
      exact ⟨⟨k + 1, m, by omega, by go_num, by go_num, by omega, Lib.hid (by rw [HC1.out]; rfl), HK6⟩, by simp [intOf]; omega⟩
  have hkl : k = R.length := by omega
  subst hkl
  have hdd : decide ((R.length : Int) < (R.length : Int)) = false := by simp
  have HCN2 : Hid (cntB Bx xs = m) := Lib.hid (by have h := HCN.out; rw [List.take_of_length_le (by rw [bodies2_length]; exact Nat.le_refl _), HB2.out] at h; exact h)
  have HK6 : Hid (St w wr (fun V => F12 A L G gl pa ps V ∧ RunesAt B xs V ∧ BoxC w.heap.size [.int .i64 b, .int .i64 d, .int .i64 t, .int .i64 u, .int .i64 s, .slice pa ps.length pc] V)) := Lib.hid (HK5.out.weaken fun _ h => h.2)
  obtain ⟨q0, q1, q2, q3, q4, q5⟩ := HK6.out.now.2.2.c6
  obtain ⟨ok, hok⟩ : ∃ v, pB (ValOk ⟨b, d, t, u, s, ps⟩ xs) = v := ⟨_, rfl⟩
  obtain ⟨z, hz⟩ : ∃ z, (if ok = true then valN ⟨b, d, t, u, s, ps⟩ xs else 0) = z := ⟨_, rfl⟩
  have HOKV := Lib.hid hok
  have HZ := Lib.hid hz
  have HNU : Hid (NumsOk ⟨b, d, t, u, s, ps⟩) := Lib.hid HOK.out.2.1
  clear HK5 hok hz hlt hk
  go_wp2_with fail
  refine (rTVal_st HK6 (fun _ h => h.1.1) b d t u s pc (fun _ h => h.2.1) cB HNU ok HOKV z HZ).mono ?_
  rintro e w6 ⟨rfl, HK7⟩
  clear q0 q1 q2 q3 q4 q5
  obtain ⟨e0, he0⟩ : ∃ v, ((xs.length : Int) == (L.length : Int)) = v := ⟨_, rfl⟩
  have HE0 : Hid (e0 = true ↔ xs.length = L.length) := Lib.hid (by rw [← he0, beq_iff_eq]; omega)
  go_wp2_with fail
  go_loopw [15, 16] (fun th iv wr => ∃ (j : Nat) (bo : Bool), j ≤ xs.length ∧ iv = .int .i64 j ∧ th = .bool bo ∧ Hid (bo = true ↔ (xs.length = L.length ∧ ∀ (i : Nat) g x, i < j → (bodies L)[i]? = some g → xs[i]? = some x → Mem g x)) ∧ Hid (St w wr (fun V => F12 A L G gl pa ps V ∧ RunesAt B xs V ∧ BoxC w.heap.size [.int .i64 b, .int .i64 d, .int .i64 t, .int .i64 u, .int .i64 s, .slice pa ps.length pc] V))) (fun _ iv _ => xs.length - (intOf iv).toNat)
  case atStart => exact ⟨0, e0, Nat.zero_le _, rfl, rfl, Lib.hid (HE0.out.trans ⟨fun h => ⟨h, fun i g x hi => by omega⟩, fun h => h.1⟩), HK7⟩
  case round =>
  clear HK6 HK7
  obtain ⟨j, bo, hj, rfl, rfl, HTH, HK8⟩ := hrel
  by_cases hlt : j < xs.length
  · cases bo with
    | false =>
      have HNB : Hid (¬ hitM (bodies L) xs) := Lib.hid (fun h => by
        have h2 := (hitM_iff _ _).1 h
        rw [bodies_length] at h2
        have := HTH.out.2 ⟨h2.1.symm, fun i g x _ hg hx => h2.2 i g x hg hx⟩
        cases this)
      have HKA : Hid (St w wr (fun _ => True)) := Lib.hid (HK8.out.weaken fun _ _ => trivial)
      obtain rfl : m = 0 := by rw [← HCN2.out]; exact (HSA.out.cnt xs).2 (fun h => HNB.out h.1)
      have hji : (j : Int) < (xs.length : Int) := by omega
      go_wp2_with fail
      refine (awake12_st HKA).mono ?_
      rintro e w9 ⟨rfl, HK9⟩
      go_wp2_with fail
      go_ret
      exact ⟨rfl, HK9.out.2⟩
    | true =>
      obtain ⟨hlen, hall⟩ := HTH.out.1 rfl
      obtain ⟨gb, go, ga, gc, g, hA, hLx, hgb, hcg, hlg⟩ := HK8.out.now.1.2.1.at_ (k := j) (by omega)
      obtain ⟨rb, ro, x, hB, hx, hxw, hcx⟩ := HK8.out.now.2.1.at_ hlt
      subst hA
      subst hB
      obtain ⟨v, hv⟩ : ∃ v, hasB g x = v := ⟨_, rfl⟩
      have HVV := Lib.hid hv
      have HN2 : Hid (v = true ↔ (xs.length = L.length ∧ ∀ (i : Nat) g x, i < j + 1 → (bodies L)[i]? = some g → xs[i]? = some x → Mem g x)) := Lib.hid ⟨fun h => ⟨hlen, fun i g' x' hi hg hx' => by
        rcases Nat.lt_succ_iff_lt_or_eq.1 hi with hi | rfl
        · exact hall i g' x' hi hg hx'
        · rw [hgb] at hg; injection hg with hg; subst hg
          rw [hx] at hx'; injection hx' with hx'; subst hx'
          exact (hasB_iff _ _).1 (hv.trans h)⟩, fun h => by rw [← hv]; exact (hasB_iff _ _).2 (h.2 j g x (by omega) hgb hx)⟩
      have HKd : Hid (St w wr.drew (fun V => Lst ga g V ∧ F12 (some ⟨gb, go, none⟩) L G gl pa ps V ∧ RunesAt (some ⟨rb, ro, none⟩) xs V ∧ BoxC w.heap.size [.int .i64 b, .int .i64 d, .int .i64 t, .int .i64 u, .int .i64 s, .slice pa ps.length pc] V)) := Lib.hid (HK8.out.add ((Below.refl _ wr).drew) fun V hV => hlg.below ((Below.refl _ wr).drew.trans hV))
      have hwx : IntKind.i64.wrap x = x := IntWalk.i64_in x (by unfold RuneW at hxw; omega)
      have hji : (j : Int) < (xs.length : Int) := by omega
      have hjl : (j : Int) < (L.length : Int) := by omega
      have HLX := Lib.hid hLx
      have HXX := Lib.hid hx
      clear hv hall hLx hgb hx hlg hxw hlen
      go_wp2_with fail
      refine wp_region_Z 10 (by kernel_rfl) (fun V => V.cell? ⟨gb, go + j, none⟩ = some (.slice ga g.length gc) ∧ V.cell? ⟨rb, ro + j, none⟩ = some (.int .i32 x)) ⟨hcg, hcx⟩ (fun hHeld => ?_)
      refine wpAnyZ_take (i := 0) (v := ?_) rfl (by kernel_rfl) (by kernel_rfl) (by kernel_rfl) (by kernel_rfl) (fun _ _ _ h => h) (Or.inl ⟨by first | kernel_rfl | rfl, ?_⟩) (by assumption) ?_
      rotate_left
      · intro w hSw; (try dsimp only at hSw); go_simp; (try with_reducible rfl)
      (try simp only [Act.put, List.getElem_toArray, List.getElem_cons_succ, List.getElem_cons_zero, List.setIfInBounds_toArray, List.set_cons_zero, List.set_cons_succ])
      refine wpAnyZ_take (i := 1) (v := ?_) rfl (by kernel_rfl) (by kernel_rfl) (by kernel_rfl) (by kernel_rfl) (fun _ _ _ h => h) (Or.inl ⟨by first | kernel_rfl | rfl, ?_⟩) (by assumption) ?_
      rotate_left
      · intro w hSw; (try dsimp only at hSw); go_simp; (try with_reducible rfl)
      (try simp only [Act.put, List.getElem_toArray, List.getElem_cons_succ, List.getElem_cons_zero, List.setIfInBounds_toArray, List.set_cons_zero, List.set_cons_succ])
      refine wpAnyZ_take (i := 2) (v := ?_) rfl (by kernel_rfl) (by kernel_rfl) (by kernel_rfl) (by kernel_rfl) (fun _ _ _ h => h) (Or.inl ⟨by first | kernel_rfl | rfl, ?_⟩) (by assumption) ?_
      rotate_left
      · intro w hSw; (try dsimp only at hSw); go_simp; (try with_reducible rfl)
      (try simp only [Act.put, List.getElem_toArray, List.getElem_cons_succ, List.getElem_cons_zero, List.setIfInBounds_toArray, List.set_cons_zero, List.set_cons_succ])
      refine wpAnyZ_take (i := 3) (v := ?_) rfl (by kernel_rfl) (by kernel_rfl) (by kernel_rfl) (by kernel_rfl) (fun _ _ _ h => h) (Or.inl ⟨by first | kernel_rfl | rfl, ?_⟩) (by assumption) ?_
      rotate_left
      · intro w hSw; (try dsimp only at hSw); go_simp; (try with_reducible rfl)
      (try simp only [Act.put, List.getElem_toArray, List.getElem_cons_succ, List.getElem_cons_zero, List.setIfInBounds_toArray, List.set_cons_zero, List.set_cons_succ])
      refine wpAnyZ_take (i := 4) (v := ?_) rfl (by kernel_rfl) (by kernel_rfl) (by kernel_rfl) (by kernel_rfl) (fun _ _ _ h => h) (Or.inl ⟨by first | kernel_rfl | rfl, ?_⟩) (by assumption) ?_
      rotate_left
      · intro w hSw; (try dsimp only at hSw); go_simp; (try with_reducible rfl)
      (try simp only [Act.put, List.getElem_toArray, List.getElem_cons_succ, List.getElem_cons_zero, List.setIfInBounds_toArray, List.set_cons_zero, List.set_cons_succ])
      refine wpAnyZ_take (i := 5) (v := ?_) rfl (by kernel_rfl) (by kernel_rfl) (by kernel_rfl) (by kernel_rfl) (fun _ _ _ h => h) (Or.inl ⟨by first | kernel_rfl | rfl, ?_⟩) (by assumption) ?_
      rotate_left
      · intro w hSw; (try dsimp only at hSw); go_simp; (try with_reducible rfl)
      (try simp only [Act.put, List.getElem_toArray, List.getElem_cons_succ, List.getElem_cons_zero, List.setIfInBounds_toArray, List.set_cons_zero, List.set_cons_succ])
      refine wpAnyZ_take (i := 6) (v := ?_) rfl (by kernel_rfl) (by kernel_rfl) (by kernel_rfl) (by kernel_rfl) (fun _ _ _ h => h) (Or.inl ⟨by first | kernel_rfl | rfl, ?_⟩) (by assumption) ?_
      rotate_left
      · intro w hSw; (try dsimp only at hSw); go_simp; (try with_reducible rfl)
      (try simp only [Act.put, List.getElem_toArray, List.getElem_cons_succ, List.getElem_cons_zero, List.setIfInBounds_toArray, List.set_cons_zero, List.set_cons_succ])
      refine wpAnyZ_take (i := 7) (v := ?_) rfl (by kernel_rfl) (by kernel_rfl) (by kernel_rfl) (by kernel_rfl) (fun _ _ _ h => h) (Or.inl ⟨by first | kernel_rfl | rfl, ?_⟩) (by assumption) ?_
      rotate_left
      · intro w hSw; (try dsimp only at hSw); go_simp; (try with_reducible rfl)
      (try simp only [Act.put, List.getElem_toArray, List.getElem_cons_succ, List.getElem_cons_zero, List.setIfInBounds_toArray, List.set_cons_zero, List.set_cons_succ])
      refine wpAnyZ_take (i := 8) (v := ?_) rfl (by kernel_rfl) (by kernel_rfl) (by kernel_rfl) (by kernel_rfl) (fun _ _ _ h => h) (Or.inl ⟨by first | kernel_rfl | rfl, ?_⟩) (by assumption) ?_
      rotate_left
      · intro w hSw; (try dsimp only at hSw); go_simp; (try with_reducible rfl)
      (try simp only [Act.put, List.getElem_toArray, List.getElem_cons_succ, List.getElem_cons_zero, List.setIfInBounds_toArray, List.set_cons_zero, List.set_cons_succ])
      refine wpAnyZ_ready (i := 9) (by kernel_rfl) rfl (fun K hK => ?_)
      go_simp
      refine (rHas_st HKd (fun _ h => h.1) gc x HVV.out).mono ?_
      rintro e w7 ⟨rfl, HK9⟩
      have hb7 := HK9.out.now
      refine hK.out _ _ (⟨(Items.cell (k := j) hb7.2.1.2.1.1 HLX.out).1, (hb7.2.2.1.cellR HXX.out)⟩) (fun hHeld => ?_)
      clear hK K
      (try simp only [Act.put, List.getElem_toArray, List.getElem_cons_succ, List.getElem_cons_zero, List.setIfInBounds_toArray, List.set_cons_zero, List.set_cons_succ])
      refine wpAnyZ_last (i := 10) rfl (by kernel_rfl) (by kernel_rfl) rfl (fun K hK => ?_)
      go_simp
      refine hK.out _ _ ?_
      clear hK K hHeld
      go_wp2_with fail
      exact ⟨⟨j + 1, v, by omega, by go_num, rfl, HN2, Lib.hid (HK9.out.weaken fun _ h => h.2)⟩, by simp [intOf]; omega⟩
  · have hjx : j = xs.length := by omega
    subst hjx
    have hdd2 : decide ((xs.length : Int) < (xs.length : Int)) = false := by simp
    have HBF : Hid (bo = true ↔ hitM (bodies L) xs) := Lib.hid (by
      rw [hitM_iff, bodies_length]
      refine HTH.out.trans ⟨fun h => ⟨h.1.symm, fun i g x hg hx => h.2 i g x (List.getElem?_eq_some_iff.1 hx).1 hg hx⟩, fun h => ⟨h.1.symm, fun i g x _ hg hx => h.2 i g x hg hx⟩⟩)
    clear hlt hj
    have HKA : Hid (St w wr (fun _ => True)) := Lib.hid (HK8.out.weaken fun _ _ => trivial)
    cases bo with
    | false =>
      obtain rfl : m = 0 := by rw [← HCN2.out]; exact (HSA.out.cnt xs).2 (fun h => by have := HBF.out.2 h.1; cases this)
      go_wp2_with fail
      refine (awake12_st HKA).mono ?_
      rintro e w9 ⟨rfl, HK9⟩
      go_wp2_with fail
      go_ret
      exact ⟨rfl, HK9.out.2⟩
    | true =>
      cases ok with
      | false =>
        obtain rfl : m = 0 := by rw [← HCN2.out]; exact (HSA.out.cnt xs).2 (fun h => by have := pB_true h.2.1; rw [HOKV.out] at this; cases this)
        go_wp2_with fail
        refine (awake12_st HKA).mono ?_
        rintro e w9 ⟨rfl, HK9⟩
        go_wp2_with fail
        go_ret
        exact ⟨rfl, HK9.out.2⟩
      | true =>
        obtain ⟨v, hv⟩ : ∃ v, hasB gl z = v := ⟨_, rfl⟩
        have hzv : valN ⟨b, d, t, u, s, ps⟩ xs = z := by have h := HZ.out; rw [if_pos rfl] at h; exact h
        have hvm : v = true ↔ Mem gl (valN ⟨b, d, t, u, s, ps⟩ xs) := by rw [hzv, ← hv]; exact hasB_iff gl z
        cases v with
        | true =>
          obtain rfl : m = 1 := by rw [← HCN2.out]; exact (HSA.out.cnt xs).1 ⟨HBF.out.1 rfl, pB_iff.1 HOKV.out, hvm.1 rfl⟩
          have HVV := Lib.hid hv
          clear hv hzv hvm
          go_wp2_with (go_at_call 15; refine (rHas_st HK8 (fun _ h => h.1.2.2) cg z HVV.out).mono ?_; rintro e w8 ⟨rfl, HKX⟩; have HKA : Hid (St w w8 (fun _ => True)) := Lib.hid (HKX.out.weaken fun _ _ => trivial))
          refine (awake12_st HKA).mono ?_
          rintro e w9 ⟨rfl, HK9⟩
          go_wp2_with fail
          go_ret
          exact ⟨rfl, HK9.out.2⟩
        | false =>
          obtain rfl : m = 0 := by rw [← HCN2.out]; exact (HSA.out.cnt xs).2 (fun h => by have := hvm.2 h.2.2; cases this)
          have HVV := Lib.hid hv
          clear hv hzv hvm
          go_wp2_with (go_at_call 15; refine (rHas_st HK8 (fun _ h => h.1.2.2) cg z HVV.out).mono ?_; rintro e w8 ⟨rfl, HKX⟩; have HKA : Hid (St w w8 (fun _ => True)) := Lib.hid (HKX.out.weaken fun _ _ => trivial))
          refine (awake12_st HKA).mono ?_
          rintro e w9 ⟨rfl, HK9⟩
          go_wp2_with fail
          go_ret
          exact ⟨rfl, HK9.out.2⟩
end Go.Proofs.Ytpmhdjiacgckjaa
end
section
namespace Go.Proofs.Ytpmhdjiacgckjaa
open Go.RowKit
set_option linter.unusedVariables false
set_option linter.unusedSimpArgs false
theorem spans_dep {w : World} {A : Option Addr} {r : List Sp} {B : Nat} (h : Spans w A r.length r) (hf : r.length = 0 ∨ ∃ g, A = some ⟨g, 0, none⟩ ∧ B ≤ g) : Dep (fun k => B ≤ k) w (fun W => Spans W A r.length r) := fun V hV => by
  refine ⟨h.1, fun hn => ?_⟩
  obtain ⟨b, off, rfl, hc⟩ := h.2 hn
  refine ⟨b, off, rfl, fun j u hu => ?_⟩
  rcases hf with hf | ⟨g, hg, hB⟩
  · omega
  · injection hg with hg
    injection hg with e1 e2
    have hb := hV b (by omega) (lt_of_cell (hc j u hu))
    rw [World.cell?_of_block (w := w) (a := ⟨b, off + j, none⟩) hb]
    exact hc j u hu
section
variable {w0 w : World} {F : World → Prop}
theorem retLD_new {r : List Sp} {e : Ending} {w' : World} {S : Int → Prop} (hK : Hid (St w0 w F)) (h : NewRep w S e w') (hr : Hid (Rep r S)) : RetLD w0 w r F e w' := by
  obtain ⟨r', ⟨A1, n1, c1, rfl, hsp, hc, hm, hb⟩, hr', _, A2, n2, c2, e2, hf⟩ := h
  obtain rfl := Rep.unique hr' hr.out (fun _ => Iff.rfl)
  injection e2 with e2
  injection e2 with e2 e3 e4
  subst e2; subst e3
  have := hsp.len
  subst this
  have hd : Dep (fun k => w.heap.size ≤ k) w' (Lst A1 r') := fun V hV => hr'.1.lst (spans_dep hsp hf V hV) V (Below.refl _ _)
  exact ⟨A1, c1, rfl, Lib.hid hd, Lib.hid (hK.out.add hb hd.st), Lib.hid hb⟩
set_option maxRecDepth 100000 in
set_option maxHeartbeats 16000000 in
theorem Symbols_stD (hK : Hid (St w0 w F)) {A : Option Addr} {a r : List Sp} (ha : ∀ W, F W → Lst A a W) (hl : a.length < 1048576) (c : Nat) (hr : Hid (Rep r (fun x => Mem a x ∧ Mem [((0 : Int), (1114111 : Int))] x))) :
    Calls Try.prog 28 #[.slice A a.length c] w (RetLD w0 w r F) := by
  have HK1 : Hid (St w0 (w.alloc (.cells #[.int .i64 0, .int .i64 1114111] 52)) (fun W => Lst (some ⟨w.heap.size, 0, none⟩) [((0 : Int), (1114111 : Int))] W ∧ F W)) :=
    Lib.hid (hK.out.add ((Below.refl _ _).alloc (Nat.le_refl _) _) fun W hW => (sym_lst _ _ _ (heap_alloc_new w _)).below hW)
  have h1 := ha _ HK1.out.now.2
  have h2 := HK1.out.now.1
  have HM := Lib.hid (Make1_any A (some ⟨w.heap.size, 0, none⟩) _ c _ 1 a [((0 : Int), (1114111 : Int))] _ h1.sp h2.sp h1.wd h2.wd hl (by decide))
  clear h1 h2
  go_enter Try.func28, Try.ntmps28
  go_wp2_with (go_at_call 20; refine HM.out.mono ?_; intro e w2 h; (obtain ⟨A2, c2, rfl, HD, HK2, HB2⟩ := retLD_new HK1 h (Lib.hid (hr.out.congr fun x => (madeB_1 a [((0 : Int), (1114111 : Int))] x).symm))))
  go_ret
  refine ⟨A2, c2, rfl, Lib.hid (HD.out.mono fun k hk _ => by simp at hk; omega), Lib.hid (HK2.out.weaken fun _ h => ⟨h.1, h.2.2⟩), Lib.hid ?_⟩
  have hbb := HB2.out
  exact ((Below.refl w.heap.size w).alloc (Nat.le_refl _) _).trans ⟨hbb.os, hbb.tape, hbb.output, hbb.size, fun k hk => hbb.block k (by simp; omega)⟩
/-- a set's symbols, plain -/
noncomputable def symL (a : List Sp) : List Sp := plL fun x => Mem a x ∧ Mem [((0 : Int), (1114111 : Int))] x
theorem sym_rep (a : List Sp) : Rep (symL a) (fun x => Mem a x ∧ Mem [((0 : Int), (1114111 : Int))] x) := plL_rep (rep_all _ fun x hx => ⟨hx.1.1, hx.1.2.1⟩)
set_option maxRecDepth 100000 in
set_option maxHeartbeats 16000000 in
theorem Plains_st (hK : Hid (St w0 w F)) {A : Option Addr} {O : List (Item Sp)} (ha : ∀ W, F W → LLx A O W) (hs : ∀ i ∈ O, i.2.2.length ≤ 20) (hlo : O.length ≤ 20) (c : Nat) :
    Calls Try.prog 17 #[.slice A O.length c] w fun e w' => ∃ A2 L c2, e = .returned (.slice A2 L.length c2) ∧ bodies L = (bodies O).map symL ∧ Hid (St w0 w' (fun W => LLx A2 L W ∧ F W)) := by
  have HA := Lib.hid ha
  have HS := Lib.hid hs
  clear ha hs
  go_enter Try.func17, Try.ntmps17
  go_wp2_with fail
  obtain ⟨n, hn⟩ : ∃ n, w.heap.size = n := ⟨_, rfl⟩
  go_loopw [3, 4] (fun ov i wr => ∃ (k : Nat) (A2 : Option Addr) (c2 : Nat) (L : List (Item Sp)), k ≤ O.length ∧ i = .int .i64 k ∧ L.length = k ∧ ov = .slice A2 L.length c2 ∧ Hid (bodies L = ((bodies O).map symL).take k) ∧ Hid (GoRow n 26 1 hdC hdR A2 c2 L wr) ∧ Hid (Below n w wr)) (fun _ i _ => O.length - (intOf i).toNat)
  case atStart => exact ⟨0, none, 0, [], Nat.zero_le _, rfl, rfl, rfl, Lib.hid rfl, Lib.hid (GoRow.nil_ _ _ _ _ _ _), Lib.hid (by rw [← hn]; exact Below.refl _ _)⟩
  case round =>
  obtain ⟨k, A2, c2, L, hk, rfl, hLk, rfl, HL, HG, HBL⟩ := hrel
  by_cases hlt : k < O.length
  · have HK : Hid (St w0 wr F) := Lib.hid (hK.out.step (by rw [hn]; exact HBL.out))
    obtain ⟨gb, off, ba, bc, b, rfl, hO, hb, hc, hl⟩ := (HA.out _ HK.out.now).at_ hlt
    have hb20 := HS.out _ (List.mem_of_getElem? hO)
    simp only at hb20
    have HX : Hid (((bodies O).map symL)[k]? = some (symL b)) := Lib.hid (by rw [List.getElem?_map, hb]; rfl)
    have HKi := Lib.hid (HK.out.add (Below.refl _ _) (G := Lst ba b) fun W hW => hl.below hW)
    obtain ⟨r, hr⟩ : ∃ r, symL b = r := ⟨_, rfl⟩
    have HR : Hid (Rep r (fun y => Mem b y ∧ Mem [((0 : Int), (1114111 : Int))] y)) := Lib.hid (by rw [← hr]; exact sym_rep b)
    rw [hr] at HX
    have hsz : n ≤ wr.heap.size := by have := HBL.out.size; omega
    clear hb hO hl hr
    go_upto_region 5 with fail
    have HCB := Lib.hid (Symbols_stD HKi (fun _ h => h.1) (show b.length < 1048576 by omega) bc HR)
    obtain ⟨i0, hi, hz0, hz1, hz2⟩ := info_parts infoHdx
    have hl40 : L.length < 1099511627776 := by omega
    subst hLk
    have HGW : Hid (∀ w5, Below wr.heap.size wr w5 → GoRow n 26 1 hdC hdR A2 c2 L w5) := Lib.hid fun w5 h => HG.out.keep h.size fun k _ hl => h.block k hl
    go_wp2_with (first
      | (go_at_call 28; refine HCB.out.mono ?_; rintro e5 w5 ⟨A5, c5, rfl, HD5, HK2, HB5⟩; (have HG5 := Lib.hid (HGW.out _ HB5.out)); (have hz5 : n ≤ w5.heap.size := Nat.le_trans hsz HB5.out.size))
      | (at_builtin; go_must (refine wpList_pushG rfl _ _ 25 rfl n 26 i0 _ 1 24 Try.underlying25 hi hz0 hz1 hz2 rfl (by decide) HG5.out.own rfl [.slice A5 r.length c5] 26 rfl rfl (by simp [Value.oneCell']) hl40 (by decide) hz5 ?_); intro A9 c9 w9 HO9 HG9 HN9))
    have HD6 : Hid (Dep (fun k => n ≤ k ∧ some k ≠ ownA A2) w5 (hdR (A5, c5, r))) := Lib.hid (HD5.out.mono fun k hp hl => by
      have hp2 : wr.heap.size ≤ k := hp
      exact ⟨Nat.le_trans hsz hp2, fun e => by have := (HG.out.rlt k e.symm).2; omega⟩)
    have HGN := Lib.hid (HG5.out.push (x := (A5, c5, r)) HO9.out HG9.out HN9.out HD6.out)
    have hbw : Below n wr w5 := by
      have := HB5.out
      exact ⟨this.os, this.tape, this.output, this.size, fun k hk => this.block k (by omega)⟩
    have HBN : Hid (Below n w w9) := Lib.hid (((HBL.out.trans hbw).alloc hz5 _).grown HG9.out (by simp; omega) fun k hk => (HG5.out.rlt k hk).1)
    exact ⟨⟨L.length + 1, A9, c9, L ++ [(A5, c5, r)], by omega, by go_num, by simp, by simp, Lib.hid (by rw [bodies_append, HL.out, take_snoc? HX.out]; rfl), HGN, HBN⟩, by simp [intOf]; omega⟩
  · obtain rfl : k = O.length := by omega
    have hd : decide (O.length < O.length) = false := by simp
    have HOK : Hid (bodies L = (bodies O).map symL) := Lib.hid (by rw [HL.out, List.take_of_length_le (by rw [List.length_map, bodies_length]; omega)])
    have HLL : Hid (∀ V, Below wr.heap.size wr V → LLx A2 L V) := Lib.hid fun V hV => by
      have h := HG.out.rows (by omega) V (fun k _ hl => hV.block k hl)
      have h1 := h.sl
      rw [hd_cells] at h1
      exact ⟨⟨h1, h.it⟩, by omega⟩
    have HKE : Hid (St w0 wr (fun W => LLx A2 L W ∧ F W)) := Lib.hid (hK.out.add (by rw [hn]; exact HBL.out) HLL.out)
    rw [← hLk] at hd ⊢
    go_wp2_with fail
    go_ret
    exact ⟨A2, L, c2, rfl, HOK.out, HKE⟩
end
end Go.Proofs.Ytpmhdjiacgckjaa
end
section
namespace Go.Proofs.Ytpmhdjiacgckjaa
open Go.RowKit
set_option linter.unusedVariables false
set_option linter.unusedSimpArgs false
/-- how many windows, 1001 at most -/
noncomputable def winTo (L : List (List Sp)) : Int := L.foldl (fun n a => min (n * min (cnt (symL a)) 1001) 1001) 1
theorem winTo_snoc (L : List (List Sp)) (a : List Sp) : winTo (L ++ [a]) = min (winTo L * min (cnt (symL a)) 1001) 1001 := by unfold winTo; rw [List.foldl_append]; rfl
theorem winTo_bd (L : List (List Sp)) : 0 ≤ winTo L ∧ winTo L ≤ 1001 := by
  have h : ∀ (L : List (List Sp)) (n : Int), 0 ≤ n → n ≤ 1001 → 0 ≤ L.foldl (fun n a => min (n * min (cnt (symL a)) 1001) 1001) n ∧ L.foldl (fun n a => min (n * min (cnt (symL a)) 1001) 1001) n ≤ 1001 := by
    intro L
    induction L with
    | nil => intro n h0 h1; exact ⟨h0, h1⟩
    | cons a L ih =>
      intro n h0 h1
      rw [List.foldl_cons]
      have h2 := (sym_rep a).1.cnt_bd
      have h3 : 0 ≤ n * min (cnt (symL a)) 1001 := Int.mul_nonneg h0 (by omega)
      exact ih _ (by omega) (by omega)
  exact h L 1 (by omega) (by omega)
section
variable {w0 w : World} {F : World → Prop}
set_option maxRecDepth 100000 in
set_option maxHeartbeats 16000000 in
theorem Windows_st (hK : Hid (St w0 w F)) {A : Option Addr} {O : List (Item Sp)} (ha : ∀ W, F W → LLx A O W) (hs : ∀ i ∈ O, i.2.2.length ≤ 1000) (hlo : O.length ≤ 20) (c : Nat) :
    Calls Try.prog 16 #[.slice A O.length c, .int .i64 1000] w (RetV w0 (.int .i64 (winTo (bodies O))) F) := by
  have HA := Lib.hid ha
  have HS := Lib.hid hs
  clear ha hs
  go_enter Try.func16, Try.ntmps16
  go_wp2_with fail
  go_loopw [5, 6] (fun nv i wr => ∃ (k : Nat) (nn : Int), k ≤ O.length ∧ i = .int .i64 k ∧ nv = .int .i64 nn ∧ Hid (nn = winTo ((bodies O).take k)) ∧ Hid (St w0 wr F)) (fun _ i _ => O.length - (intOf i).toNat)
  case atStart => exact ⟨0, 1, Nat.zero_le _, rfl, rfl, Lib.hid rfl, hK⟩
  case round =>
  obtain ⟨k, nn, hk, rfl, rfl, HN, HK⟩ := hrel
  by_cases hlt : k < O.length
  · obtain ⟨gb, off, ba, bc, b, rfl, hO, hb, hc, hl⟩ := (HA.out _ HK.out.now).at_ hlt
    have hb20 := HS.out _ (List.mem_of_getElem? hO)
    simp only at hb20
    have HX := Lib.hid hb
    have HKi := Lib.hid (HK.out.add (Below.refl _ _) (G := Lst ba b) fun W hW => hl.below hW)
    have HR : Hid (Rep (symL b) (fun y => Mem b y ∧ Mem [((0 : Int), (1114111 : Int))] y)) := Lib.hid (sym_rep b)
    have HML := Lib.hid (meet_len HR.out)
    obtain ⟨n0, n1⟩ := winTo_bd ((bodies O).take k)
    rw [← HN.out] at n0 n1
    have hcb := HR.out.1.cnt_bd
    obtain ⟨r, hr⟩ : ∃ r, symL b = r := ⟨_, rfl⟩
    obtain ⟨cn, hcn⟩ : ∃ cn, cnt r = cn := ⟨_, rfl⟩
    have HW : Hid (winTo ((bodies O).take (k + 1)) = min (nn * min cn 1001) 1001) := Lib.hid (by rw [take_snoc? HX.out, winTo_snoc, ← HN.out, hr, hcn])
    rw [hr] at HR HML hcb
    rw [hcn] at hcb
    obtain ⟨m1, hm1⟩ : ∃ m1, min cn 1001 = m1 := ⟨_, rfl⟩
    rw [hm1] at HW
    have hm1b : 0 ≤ m1 ∧ m1 ≤ 1001 := by omega
    obtain ⟨m2, hm2⟩ : ∃ m2, nn * m1 = m2 := ⟨_, rfl⟩
    rw [hm2] at HW
    have hm2b : 0 ≤ m2 ∧ m2 ≤ 1002001 := by
      rw [← hm2]
      exact ⟨Int.mul_nonneg n0 hm1b.1, by have := Int.mul_le_mul n1 hm1b.2 hm1b.1 (by omega : (0 : Int) ≤ 1001); omega⟩
    have hw2 : wrap64 (nn * m1) = m2 := by rw [hm2]; unfold wrap64; omega
    obtain ⟨m3, hm3⟩ : ∃ m3, min m2 1001 = m3 := ⟨_, rfl⟩
    rw [hm3] at HW
    have HCN := Lib.hid hcn
    clear hb hO hl hr hcn hm2 n0 n1 hcb hm1b hm2b
    go_wp2_with (first
      | (go_at_call 28; refine (Symbols_st HKi (fun _ h => h.1) (by omega) bc HR).mono ?_; rintro e w3 ⟨A3, c3, rfl, HK3⟩)
      | (go_at_call 27; refine (rCount_st HK3 (fun _ h => h.1) (by have := HML.out; omega) c3 (Lib.hid (Rep.self HR.out.1))).mono ?_; rintro e w4 ⟨rfl, HK4⟩; rw [HCN.out]))
    exact ⟨⟨k + 1, m3, by omega, by go_num, rfl, Lib.hid HW.out.symm, Lib.hid (HK4.out.weaken fun _ h => h.2.2)⟩, by simp [intOf]; omega⟩
  · obtain rfl : k = O.length := by omega
    have hd : decide (O.length < O.length) = false := by simp
    have HE : Hid (nn = winTo (bodies O)) := Lib.hid (by have := HN.out; rwa [List.take_of_length_le (by rw [bodies_length]; omega)] at this)
    obtain rfl := HE.out
    go_wp2_with fail
    go_ret
    exact ⟨rfl, HK⟩
end
end Go.Proofs.Ytpmhdjiacgckjaa
end
