/- Two sorted stretches of a row merged in place: the library's walk. Condition: as StabRow says. -/
import Derived.Test.YtdaagdohhnhbdaaStabSym
namespace Go.Proofs.Ytdaagdohhnhbdaa
open Go.RowKit
set_option linter.unusedVariables false

theorem u64_id {x : Int} (h0 : 0 ≤ x) (h1 : x ≤ 9223372036854775807) : IntKind.u64.wrap x = x := by
  show x % 18446744073709551616 = x
  omega
theorem half_nat (i j : Nat) (h : i < j) (hb : j < 1099511627776) : ∃ k : Nat, i ≤ k ∧ k < j ∧ IntKind.u64.wrap ((i : Int) + (j : Int)) = (i : Int) + (j : Int) ∧ ((i : Int) + (j : Int)) / 2 = (k : Int) :=
  ⟨(i + j) / 2, by omega, by omega, u64_id (by omega) (by omega), by omega⟩

set_option maxRecDepth 100000 in
set_option maxHeartbeats 32000000 in
theorem sym_any (base g cap : Nat) (N : Nat) : ∀ (a m b : Nat) (xs0 : List KV) (W : World), b - a ≤ N → Hid (KSt W base g cap xs0) → a < m → m < b → b ≤ xs0.length → xs0.length < 1099511627776 →
    Hid (SrtB xs0 a m) → Hid (SrtB xs0 m b) → Hid (IxX xs0 a m b) →
    Calls Try.prog 113 #[.slice (some ⟨g, 0, none⟩) xs0.length cap, .int .i64 a, .int .i64 m, .int .i64 b, .func (.func 79) #[] #[]] W (KEnd W base g cap fun ys => Rch a b xs0 ys ∧ SrtB ys a b) := by
  induction N with
  | zero => intro a m b xs0 W h; omega
  | succ N ih =>
  intro a m b xs0 W hN hK ham hmb hb hn S1 S2 HX
  have eg := eg79
  have IH := Lib.hid ih
  clear ih
  by_cases hma : m - a = 1
  · have hm : Hid (m = a + 1) := Lib.hid (by omega)
    have hm1 : ((m : Int) - (a : Int) == 1) = true := by rw [beq_iff_eq]; omega
    obtain ⟨x, hx⟩ := get_of_lt (xs := xs0) (i := a) (by omega)
    have HXA := Lib.hid hx
    go_enter Try.func113, Try.ntmps113
    go_wp2_with fail
    go_loopw [10, 11] (fun iv jv wr => ∃ i j : Nat, Hid (KGo W base g cap xs0 wr) ∧ iv = .int .i64 i ∧ jv = .int .i64 j ∧ m ≤ i ∧ i ≤ j ∧ j ≤ b ∧ Hid (B1 xs0 m b x.key i j)) (fun iv jv _ => (intOf jv).toNat - (intOf iv).toNat)
    case atStart => exact ⟨m, b, Lib.hid (KGo.start hK.out), rfl, rfl, Nat.le_refl _, by omega, Nat.le_refl _, Lib.hid (B1.start _ _ (by omega))⟩
    case round =>
    obtain ⟨i, j, HG0, rfl, rfl, hi1, hi2, hj2, HB⟩ := hrel
    by_cases hij : i < j
    · obtain ⟨h, h1, h2, h3, h4⟩ := half_nat i j hij (by omega)
      obtain ⟨y, hy⟩ := get_of_lt (xs := xs0) (i := h) (by omega)
      have hc1 := HG0.out.1.at_ HXA.out
      have hc2 := HG0.out.1.at_ hy
      have HL := Lib.hid (HG0.out.1.less hy HXA.out)
      have HY := Lib.hid hy
      have hbl : h < xs0.length := by omega
      have hbl2 : a < xs0.length := by omega
      clear hy hx
      by_cases hk : y.key < x.key
      · have hcm := cmpI_lt hk
        have HB2 := Lib.hid (HB.out.up S2.out h1 h2 HY.out hk)
        clear hk
        go_wp2_with (go_quiet ((go_at_call 79; exact HL.out _)))
        exact ⟨⟨h + 1, j, Lib.hid (HG0.out.drewN _), by go_num, rfl, by omega, by omega, hj2, HB2⟩, by simp [intOf]; omega⟩
      · have hcm := cmpI_nlt hk
        have HB2 := Lib.hid (HB.out.down S2.out h1 h2 HY.out hk)
        clear hk
        go_wp2_with (go_quiet ((go_at_call 79; exact HL.out _)))
        exact ⟨⟨i, h, Lib.hid (HG0.out.drewN _), rfl, rfl, by omega, by omega, by omega, HB2⟩, by simp [intOf]; omega⟩
    · have hnij : ¬ ((i : Int) < j) := by omega
      obtain rfl : i = j := by omega
      obtain ⟨i1, hi1'⟩ : ∃ p : Nat, i - 1 = p := ⟨_, rfl⟩
      have ei : (i : Int) - 1 = (i1 : Int) := by omega
      clear hx
      go_wp2_with fail
      go_loopw [13] (fun kv wr => ∃ (k : Nat) (xs : List KV), kv = .int .i64 k ∧ a ≤ k ∧ k ≤ i1 ∧ Hid (MvU xs0 xs a k) ∧ Hid (Rch a b xs0 xs) ∧ Hid (KGo W base g cap xs wr)) (fun kv _ => i - (intOf kv).toNat)
      case atStart => exact ⟨a, xs0, rfl, Nat.le_refl _, by omega, Lib.hid (MvU.start _ _), Lib.hid (Rch.refl _ _ _), HG0⟩
      case round =>
      obtain ⟨k, xs, rfl, hk1, hk2, HM, HR, HG⟩ := hrel
      have hxl := HR.out.len
      by_cases hlt : k < i1
      · obtain ⟨u, hu⟩ := get_of_lt (xs := xs) (i := k) (by omega)
        obtain ⟨v, hv⟩ := get_of_lt (xs := xs) (i := k + 1) (by omega)
        have hc1 := HG.out.1.at_ hu
        have hc2 := HG.out.1.at_ hv
        have hf1 := HG.out.1.row.frozenAt k
        have hf2 := HG.out.1.row.frozenAt (k + 1)
        have hc3 := HG.out.1.st1 (i := k) v.val hv (by omega)
        unfold KV.val at hc1 hc2 hc3
        have HSW := Lib.hid (HG.out.swp hu hv)
        have HR2 := Lib.hid (HR.out.trans (Rch.swap hu hv (by omega) (by omega) (by omega) (by omega) (by omega)))
        have HM2 := Lib.hid (HM.out.next hu hv)
        have hkl : k + 1 < xs0.length := by omega
        have mixed : Try.prog.follows .mixedOrders = true := by kernel_rfl
        clear hu hv
        go_wp2_with fail
        go_big_region_o
        clear hc1 hc2 hc3 hf1 hf2
        go_wp2_with fail
        exact ⟨⟨k + 1, _, by go_num, by omega, by omega, HM2, HR2, HSW⟩, by simp [intOf]; omega⟩
      · have hnk : ¬ ((k : Int) < (i1 : Int)) := by omega
        obtain rfl : k = i1 := by omega
        go_wp2_with fail
        go_end0
        exact ⟨rfl, xs, ⟨HR.out, MvU.done (i := i) HXA.out (hm.out ▸ S2.out) (hm.out ▸ HX.out) (hm.out ▸ HB.out) (by rw [hi1']; exact HM.out)⟩, HG.out.1, HG.out.2⟩
  have hm1 : ((m : Int) - (a : Int) == 1) = false := by rw [beq_eq_false_iff_ne]; omega
  by_cases hbm : b - m = 1
  · have hbm1 : Hid (b = m + 1) := Lib.hid (by omega)
    have hm2 : ((b : Int) - (m : Int) == 1) = true := by rw [beq_iff_eq]; omega
    obtain ⟨x, hx⟩ := get_of_lt (xs := xs0) (i := m) (by omega)
    have HXA := Lib.hid hx
    go_enter Try.func113, Try.ntmps113
    go_wp2_with fail
    go_loopw [14, 15] (fun iv jv wr => ∃ i j : Nat, Hid (KGo W base g cap xs0 wr) ∧ iv = .int .i64 i ∧ jv = .int .i64 j ∧ a ≤ i ∧ i ≤ j ∧ j ≤ m ∧ Hid (B2 xs0 a m x.key i j)) (fun iv jv _ => (intOf jv).toNat - (intOf iv).toNat)
    case atStart => exact ⟨a, m, Lib.hid (KGo.start hK.out), rfl, rfl, Nat.le_refl _, by omega, Nat.le_refl _, Lib.hid (B2.start _ _ (by omega))⟩
    case round =>
    obtain ⟨i, j, HG0, rfl, rfl, hi1, hi2, hj2, HB⟩ := hrel
    by_cases hij : i < j
    · obtain ⟨h, h1, h2, h3, h4⟩ := half_nat i j hij (by omega)
      obtain ⟨y, hy⟩ := get_of_lt (xs := xs0) (i := h) (by omega)
      have hc1 := HG0.out.1.at_ HXA.out
      have hc2 := HG0.out.1.at_ hy
      have HL := Lib.hid (HG0.out.1.less HXA.out hy)
      have HY := Lib.hid hy
      have hbl : h < xs0.length := by omega
      have hbl2 : m < xs0.length := by omega
      clear hy hx
      by_cases hk : x.key < y.key
      · have hcm := cmpI_lt hk
        have HB2 := Lib.hid (HB.out.down S1.out h1 h2 HY.out hk)
        clear hk
        go_wp2_with (go_quiet ((go_at_call 79; exact HL.out _)))
        exact ⟨⟨i, h, Lib.hid (HG0.out.drewN _), rfl, rfl, by omega, by omega, by omega, HB2⟩, by simp [intOf]; omega⟩
      · have hcm := cmpI_nlt hk
        have HB2 := Lib.hid (HB.out.up S1.out h1 h2 HY.out hk)
        clear hk
        go_wp2_with (go_quiet ((go_at_call 79; exact HL.out _)))
        exact ⟨⟨h + 1, j, Lib.hid (HG0.out.drewN _), by go_num, rfl, by omega, by omega, hj2, HB2⟩, by simp [intOf]; omega⟩
    · have hnij : ¬ ((i : Int) < j) := by omega
      obtain rfl : i = j := by omega
      clear hx
      go_wp2_with fail
      go_loopw [17] (fun kv wr => ∃ (k : Nat) (xs : List KV), kv = .int .i64 k ∧ i ≤ k ∧ k ≤ m ∧ Hid (MvD xs0 xs m k) ∧ Hid (Rch a b xs0 xs) ∧ Hid (KGo W base g cap xs wr)) (fun kv _ => (intOf kv).toNat)
      case atStart => exact ⟨m, xs0, rfl, by omega, Nat.le_refl _, Lib.hid (MvD.start _ _), Lib.hid (Rch.refl _ _ _), HG0⟩
      case round =>
      obtain ⟨k0, xs, rfl, hk1, hk2, HM, HR, HG⟩ := hrel
      have hxl := HR.out.len
      by_cases hlt : i < k0
      · obtain ⟨k, rfl⟩ : ∃ k, k0 = k + 1 := ⟨k0 - 1, by omega⟩
        obtain ⟨u, hu⟩ := get_of_lt (xs := xs) (i := k + 1) (by omega)
        obtain ⟨v, hv⟩ := get_of_lt (xs := xs) (i := k) (by omega)
        have hc1 := HG.out.1.at_ hu
        have hc2 := HG.out.1.at_ hv
        have hf1 := HG.out.1.row.frozenAt k
        have hf2 := HG.out.1.row.frozenAt (k + 1)
        have hc3 := HG.out.1.st1 (i := k + 1) v.val hv (by omega)
        unfold KV.val at hc1 hc2 hc3
        have HSW := Lib.hid (HG.out.swp hu hv)
        have HR2 := Lib.hid (HR.out.trans (Rch.swap hu hv (by omega) (by omega) (by omega) (by omega) (by omega)))
        have HM2 := Lib.hid (HM.out.next (by omega) hu (by simpa using hv))
        rw [Nat.add_sub_cancel] at HM2
        have hkl : k + 1 < xs0.length := by omega
        have hik : (i : Int) < (k : Int) + 1 := by omega
        have mixed : Try.prog.follows .mixedOrders = true := by kernel_rfl
        clear hu hv
        go_wp2_with fail
        go_big_region_o
        clear hc1 hc2 hc3 hf1 hf2
        go_wp2_with fail
        exact ⟨⟨k, _, by go_num, by omega, by omega, HM2, HR2, HSW⟩, by simp [intOf]⟩
      · have hnk : ¬ ((i : Int) < (k0 : Int)) := by omega
        obtain rfl : k0 = i := by omega
        go_wp2_with fail
        go_end0
        exact ⟨rfl, xs, ⟨HR.out, hbm1.out ▸ HM.out.done HXA.out S1.out (hbm1.out ▸ HX.out) HB.out⟩, HG.out.1, HG.out.2⟩
  have hm2 : ((b : Int) - (m : Int) == 1) = false := by rw [beq_eq_false_iff_ne]; omega
  obtain ⟨mid, k1, k2, k3, k4⟩ := half_nat a b (by omega) (by omega)
  have HMID : Hid (mid = (a + b) / 2) := Lib.hid (by omega)
  obtain ⟨n0, hn0⟩ : ∃ p : Nat, mid + m = p := ⟨_, rfl⟩
  obtain ⟨p0, hp0⟩ : ∃ p : Nat, mid + m - 1 = p := ⟨_, rfl⟩
  have en : (mid : Int) + (m : Int) = (n0 : Int) := by omega
  have ep : (n0 : Int) - 1 = (p0 : Int) := by omega
  have HP0 := Lib.hid hp0
  have hmid2 : 2 * mid ≤ a + b ∧ a + b ≤ 2 * mid + 1 := by omega
  clear hn0 hp0
  by_cases hmm : m ≤ mid
  · have hmm' : ¬ ((mid : Int) < m) := by omega
    go_enter Try.func113, Try.ntmps113
    go_wp2_with fail
    go_loopw [20, 21] (fun sv rv wr => ∃ s r : Nat, Hid (KGo W base g cap xs0 wr) ∧ sv = .int .i64 s ∧ rv = .int .i64 r ∧ a ≤ s ∧ s ≤ r ∧ r ≤ m ∧ Hid (B3 xs0 p0 (a) (m) s r)) (fun sv rv _ => (intOf rv).toNat - (intOf sv).toNat)
    case atStart => exact ⟨a, m, Lib.hid (KGo.start hK.out), rfl, rfl, Nat.le_refl _, by omega, Nat.le_refl _, Lib.hid (B3.start _ (by omega))⟩
    case round =>
    obtain ⟨s, r, HG0, rfl, rfl, hs1, hs2, hr2, HB⟩ := hrel
    by_cases hij : s < r
    · obtain ⟨h, h1, h2, h3, h4⟩ := half_nat s r hij (by omega)
      obtain ⟨x, hx⟩ := get_of_lt (xs := xs0) (i := h) (by omega)
      obtain ⟨ph, hph⟩ : ∃ p : Nat, p0 - h = p := ⟨_, rfl⟩
      obtain ⟨y, hy⟩ := get_of_lt (xs := xs0) (i := ph) (by omega)
      have eh : (p0 : Int) - (h : Int) = (ph : Int) := by omega
      have HPH := Lib.hid hph
      clear hph
      have hc1 := HG0.out.1.at_ hx
      have hc2 := HG0.out.1.at_ hy
      have HL := Lib.hid (HG0.out.1.less hy hx)
      have HX1 := Lib.hid hx
      have HY1 := Lib.hid hy
      have hb1 : h < xs0.length := by omega
      have hb2 : ph < xs0.length := by omega
      clear hy hx
      by_cases hk : y.key < x.key
      · have hcm := cmpI_lt hk
        have HB2 := Lib.hid (HB.out.down S1.out S2.out (by omega) (by omega) (by omega) (by omega) h1 h2 HX1.out (by rw [HPH.out]; exact HY1.out) hk)
        clear hk
        go_wp2_with (go_quiet ((go_at_call 79; exact HL.out _)))
        exact ⟨⟨s, h, Lib.hid (HG0.out.drewN _), rfl, rfl, by omega, by omega, by omega, HB2⟩, by simp [intOf]; omega⟩
      · have hcm := cmpI_nlt hk
        have HB2 := Lib.hid (HB.out.up S1.out S2.out (by omega) (by omega) (by omega) (by omega) h1 h2 HX1.out (by rw [HPH.out]; exact HY1.out) hk)
        clear hk
        go_wp2_with (go_quiet ((go_at_call 79; exact HL.out _)))
        exact ⟨⟨h + 1, r, Lib.hid (HG0.out.drewN _), by go_num, rfl, by omega, by omega, hr2, HB2⟩, by simp [intOf]; omega⟩
    · have hnij : ¬ ((s : Int) < r) := by omega
      obtain rfl : s = r := by omega
      have HC := Lib.hid (B3.cut (s0 := a) (r0 := m) S1.out S2.out hb ham hmb HMID.out (.inl ⟨hmm, rfl, rfl⟩) (by rw [HP0.out]; exact HB.out))
      obtain ⟨c1, c2, c3, c4, c5, _, _⟩ := HC.out
      have HH := Lib.hid (fun ys hy => HC.out.halves (ys := ys) S1.out S2.out HX.out hy)
      obtain ⟨e, he⟩ : ∃ e, mid + m - s = e := ⟨_, rfl⟩
      have ee : (n0 : Int) - (s : Int) = (e : Int) := by omega
      rw [he] at HH c4 c5
      have HE0 := Lib.hid he
      clear he
      by_cases g1 : s < m ∧ m < e
      · have gi1 : (s : Int) < m := by omega
        have gi2 : (m : Int) < e := by omega
        have gi4 : (s : Int) < mid := by omega
        have gi5 : (mid : Int) < e := by omega
        by_cases g2 : a < s <;> by_cases g3 : e < b
        · have gi3 : (a : Int) < s := by omega
          have gi6 : (e : Int) < b := by omega
          go_wp2_with fail
          refine (rot_any base g cap s m e xs0 _ (Lib.hid HG0.out.1) (by omega) (by omega) (by omega) hn _).mono ?_
          rintro e1 w2 ⟨rfl, ys, ⟨r1, r2⟩, r3, r4⟩
          have HG := Lib.hid (HG0.out.call r3 r4)
          have HR := Lib.hid (r1.mono c1 c4)
          have HY := Lib.hid r2
          have hyl := r1.len
          clear r1 r2 r3 r4
          obtain ⟨q1, q2, q3, q4, q5, q6, q7⟩ := HH.out ys HY.out
          have Q1 := Lib.hid q1; have Q2 := Lib.hid q2; have Q3 := Lib.hid q3; have Q4 := Lib.hid q4; have Q5 := Lib.hid q5; have Q6 := Lib.hid q6; have Q7 := Lib.hid q7
          clear q1 q2 q3 q4 q5 q6 q7
          go_wp2_with fail
          rw [← hyl]
          refine (IH.out a s mid ys _ (by omega) (Lib.hid HG.out.1) (by omega) (by omega) (by omega) (by omega) Q1 Q2 Q3).mono ?_
          rintro e1 w3 ⟨rfl, zs, ⟨t1, t2⟩, t3, t4⟩
          have HGz := Lib.hid (HG.out.call t3 t4)
          have HRz := Lib.hid t1
          have HSz := Lib.hid t2
          have hzl := t1.len
          clear t1 t2 t3 t4
          rw [hyl]
          go_wp2_with fail
          rw [show xs0.length = zs.length by omega]
          refine (IH.out mid e b zs _ (by omega) (Lib.hid HGz.out.1) (by omega) (by omega) (by omega) (by omega) (Lib.hid (Q4.out.out HRz.out (.inr (Nat.le_refl _)))) (Lib.hid (Q5.out.out HRz.out (.inr (by omega)))) (Lib.hid (HRz.out.ixx Q6.out (.inl (Nat.le_refl _))))).mono ?_
          rintro e1 w4 ⟨rfl, us, ⟨t1, t2⟩, t3, t4⟩
          have HGu := Lib.hid (HGz.out.call t3 t4)
          have HRu := Lib.hid t1
          have HSu := Lib.hid t2
          clear t1 t2 t3 t4
          go_wp2_with fail
          go_end0
          exact ⟨rfl, us, ⟨(HR.out.trans (HRz.out.mono (Nat.le_refl _) (by omega))).trans (HRu.out.mono (by omega) (Nat.le_refl _)), halves_join Q7.out HRz.out HRu.out HSz.out HSu.out⟩, HGu.out.1, HGu.out.2⟩
        · have gi3 : (a : Int) < s := by omega
          have gi6 : ¬ (e : Int) < b := by omega
          go_wp2_with fail
          refine (rot_any base g cap s m e xs0 _ (Lib.hid HG0.out.1) (by omega) (by omega) (by omega) hn _).mono ?_
          rintro e1 w2 ⟨rfl, ys, ⟨r1, r2⟩, r3, r4⟩
          have HG := Lib.hid (HG0.out.call r3 r4)
          have HR := Lib.hid (r1.mono c1 c4)
          have HY := Lib.hid r2
          have hyl := r1.len
          clear r1 r2 r3 r4
          obtain ⟨q1, q2, q3, q4, q5, q6, q7⟩ := HH.out ys HY.out
          have Q1 := Lib.hid q1; have Q2 := Lib.hid q2; have Q3 := Lib.hid q3; have Q4 := Lib.hid q4; have Q5 := Lib.hid q5; have Q6 := Lib.hid q6; have Q7 := Lib.hid q7
          clear q1 q2 q3 q4 q5 q6 q7
          go_wp2_with fail
          rw [← hyl]
          refine (IH.out a s mid ys _ (by omega) (Lib.hid HG.out.1) (by omega) (by omega) (by omega) (by omega) Q1 Q2 Q3).mono ?_
          rintro e1 w3 ⟨rfl, zs, ⟨t1, t2⟩, t3, t4⟩
          have HGz := Lib.hid (HG.out.call t3 t4)
          have HRz := Lib.hid t1
          have HSz := Lib.hid t2
          have hzl := t1.len
          clear t1 t2 t3 t4
          rw [hyl]
          go_wp2_with fail
          have HSu : Hid (SrtB zs mid b) := by
            rcases (show mid = e ∨ e = b by omega) with h | h
            · rw [h]; exact Lib.hid (Q5.out.out HRz.out (.inr (by omega)))
            · rw [← h]; exact Lib.hid (Q4.out.out HRz.out (.inr (Nat.le_refl _)))
          go_end0
          exact ⟨rfl, zs, ⟨HR.out.trans (HRz.out.mono (Nat.le_refl _) (by omega)), halves_join Q7.out HRz.out (Rch.refl _ _ _) HSz.out HSu.out⟩, HGz.out.1, HGz.out.2⟩
        · have gi3 : ¬ (a : Int) < s := by omega
          have gi6 : (e : Int) < b := by omega
          go_wp2_with fail
          refine (rot_any base g cap s m e xs0 _ (Lib.hid HG0.out.1) (by omega) (by omega) (by omega) hn _).mono ?_
          rintro e1 w2 ⟨rfl, ys, ⟨r1, r2⟩, r3, r4⟩
          have HG := Lib.hid (HG0.out.call r3 r4)
          have HR := Lib.hid (r1.mono c1 c4)
          have HY := Lib.hid r2
          have hyl := r1.len
          clear r1 r2 r3 r4
          obtain ⟨q1, q2, q3, q4, q5, q6, q7⟩ := HH.out ys HY.out
          have Q1 := Lib.hid q1; have Q2 := Lib.hid q2; have Q3 := Lib.hid q3; have Q4 := Lib.hid q4; have Q5 := Lib.hid q5; have Q6 := Lib.hid q6; have Q7 := Lib.hid q7
          clear q1 q2 q3 q4 q5 q6 q7
          go_wp2_with fail
          have HRz : Hid (Rch a mid ys ys) := Lib.hid (Rch.refl _ _ _)
          have HSz : Hid (SrtB ys a mid) := by
            rcases (show a = s ∨ s = mid by omega) with h | h
            · rw [h]; exact Q2
            · rw [← h]; exact Q1
          rw [show xs0.length = ys.length by omega]
          refine (IH.out mid e b ys _ (by omega) (Lib.hid HG.out.1) (by omega) (by omega) (by omega) (by omega) (Lib.hid (Q4.out.out HRz.out (.inr (Nat.le_refl _)))) (Lib.hid (Q5.out.out HRz.out (.inr (by omega)))) (Lib.hid (HRz.out.ixx Q6.out (.inl (Nat.le_refl _))))).mono ?_
          rintro e1 w4 ⟨rfl, us, ⟨t1, t2⟩, t3, t4⟩
          have HGu := Lib.hid (HG.out.call t3 t4)
          have HRu := Lib.hid t1
          have HSu := Lib.hid t2
          clear t1 t2 t3 t4
          go_wp2_with fail
          go_end0
          exact ⟨rfl, us, ⟨(HR.out.trans (HRz.out.mono (Nat.le_refl _) (by omega))).trans (HRu.out.mono (by omega) (Nat.le_refl _)), halves_join Q7.out HRz.out HRu.out HSz.out HSu.out⟩, HGu.out.1, HGu.out.2⟩
        · have gi3 : ¬ (a : Int) < s := by omega
          have gi6 : ¬ (e : Int) < b := by omega
          go_wp2_with fail
          refine (rot_any base g cap s m e xs0 _ (Lib.hid HG0.out.1) (by omega) (by omega) (by omega) hn _).mono ?_
          rintro e1 w2 ⟨rfl, ys, ⟨r1, r2⟩, r3, r4⟩
          have HG := Lib.hid (HG0.out.call r3 r4)
          have HR := Lib.hid (r1.mono c1 c4)
          have HY := Lib.hid r2
          have hyl := r1.len
          clear r1 r2 r3 r4
          obtain ⟨q1, q2, q3, q4, q5, q6, q7⟩ := HH.out ys HY.out
          have Q1 := Lib.hid q1; have Q2 := Lib.hid q2; have Q3 := Lib.hid q3; have Q4 := Lib.hid q4; have Q5 := Lib.hid q5; have Q6 := Lib.hid q6; have Q7 := Lib.hid q7
          clear q1 q2 q3 q4 q5 q6 q7
          go_wp2_with fail
          have HRz : Hid (Rch a mid ys ys) := Lib.hid (Rch.refl _ _ _)
          have HSz : Hid (SrtB ys a mid) := by
            rcases (show a = s ∨ s = mid by omega) with h | h
            · rw [h]; exact Q2
            · rw [← h]; exact Q1
          have HSu : Hid (SrtB ys mid b) := by
            rcases (show mid = e ∨ e = b by omega) with h | h
            · rw [h]; exact Lib.hid (Q5.out.out HRz.out (.inr (by omega)))
            · rw [← h]; exact Lib.hid (Q4.out.out HRz.out (.inr (Nat.le_refl _)))
          go_end0
          exact ⟨rfl, ys, ⟨HR.out.trans (HRz.out.mono (Nat.le_refl _) (by omega)), halves_join Q7.out HRz.out (Rch.refl _ _ _) HSz.out HSu.out⟩, HG.out.1, HG.out.2⟩
      by_cases g2 : s < m
      · have gi1 : (s : Int) < m := by omega
        have gi2 : ¬ (m : Int) < e := by omega
        have gi4 : ¬ (s : Int) < mid := by omega
        have gi5 : (mid : Int) < e := by omega
        have gi6 : (e : Int) < b := by omega
        by_cases g3 : a < s
        · have gi3 : (a : Int) < s := by omega
          go_wp2_with fail
          have HG := HG0
          have HR : Hid (Rch a b xs0 xs0) := Lib.hid (Rch.refl _ _ _)
          have HY : Hid (∀ p, xs0[p]? = RotT xs0 s m e p) := Lib.hid (rot_same (by omega) (by omega) (by omega))
          obtain ⟨q1, q2, q3, q4, q5, q6, q7⟩ := HH.out xs0 HY.out
          have Q1 := Lib.hid q1; have Q2 := Lib.hid q2; have Q3 := Lib.hid q3; have Q4 := Lib.hid q4; have Q5 := Lib.hid q5; have Q6 := Lib.hid q6; have Q7 := Lib.hid q7
          clear q1 q2 q3 q4 q5 q6 q7
          have HRz : Hid (Rch a mid xs0 xs0) := Lib.hid (Rch.refl _ _ _)
          have HSz : Hid (SrtB xs0 a mid) := by
            rcases (show a = s ∨ s = mid by omega) with h | h
            · rw [h]; exact Q2
            · rw [← h]; exact Q1
          refine (IH.out mid e b xs0 _ (by omega) (Lib.hid HG.out.1) (by omega) (by omega) (by omega) (by omega) (Lib.hid (Q4.out.out HRz.out (.inr (Nat.le_refl _)))) (Lib.hid (Q5.out.out HRz.out (.inr (by omega)))) (Lib.hid (HRz.out.ixx Q6.out (.inl (Nat.le_refl _))))).mono ?_
          rintro e1 w4 ⟨rfl, us, ⟨t1, t2⟩, t3, t4⟩
          have HGu := Lib.hid (HG.out.call t3 t4)
          have HRu := Lib.hid t1
          have HSu := Lib.hid t2
          clear t1 t2 t3 t4
          go_wp2_with fail
          go_end0
          exact ⟨rfl, us, ⟨(HR.out.trans (HRz.out.mono (Nat.le_refl _) (by omega))).trans (HRu.out.mono (by omega) (Nat.le_refl _)), halves_join Q7.out HRz.out HRu.out HSz.out HSu.out⟩, HGu.out.1, HGu.out.2⟩
        · have gi3 : ¬ (a : Int) < s := by omega
          go_wp2_with fail
          have HG := HG0
          have HR : Hid (Rch a b xs0 xs0) := Lib.hid (Rch.refl _ _ _)
          have HY : Hid (∀ p, xs0[p]? = RotT xs0 s m e p) := Lib.hid (rot_same (by omega) (by omega) (by omega))
          obtain ⟨q1, q2, q3, q4, q5, q6, q7⟩ := HH.out xs0 HY.out
          have Q1 := Lib.hid q1; have Q2 := Lib.hid q2; have Q3 := Lib.hid q3; have Q4 := Lib.hid q4; have Q5 := Lib.hid q5; have Q6 := Lib.hid q6; have Q7 := Lib.hid q7
          clear q1 q2 q3 q4 q5 q6 q7
          have HRz : Hid (Rch a mid xs0 xs0) := Lib.hid (Rch.refl _ _ _)
          have HSz : Hid (SrtB xs0 a mid) := by
            rcases (show a = s ∨ s = mid by omega) with h | h
            · rw [h]; exact Q2
            · rw [← h]; exact Q1
          refine (IH.out mid e b xs0 _ (by omega) (Lib.hid HG.out.1) (by omega) (by omega) (by omega) (by omega) (Lib.hid (Q4.out.out HRz.out (.inr (Nat.le_refl _)))) (Lib.hid (Q5.out.out HRz.out (.inr (by omega)))) (Lib.hid (HRz.out.ixx Q6.out (.inl (Nat.le_refl _))))).mono ?_
          rintro e1 w4 ⟨rfl, us, ⟨t1, t2⟩, t3, t4⟩
          have HGu := Lib.hid (HG.out.call t3 t4)
          have HRu := Lib.hid t1
          have HSu := Lib.hid t2
          clear t1 t2 t3 t4
          go_wp2_with fail
          go_end0
          exact ⟨rfl, us, ⟨(HR.out.trans (HRz.out.mono (Nat.le_refl _) (by omega))).trans (HRu.out.mono (by omega) (Nat.le_refl _)), halves_join Q7.out HRz.out HRu.out HSz.out HSu.out⟩, HGu.out.1, HGu.out.2⟩
      · have gi1 : ¬ (s : Int) < m := by omega
        have gi3 : (a : Int) < s := by omega
        have gi5 : ¬ (mid : Int) < e := by omega
        by_cases g3 : s < mid
        · have gi4 : (s : Int) < mid := by omega
          go_wp2_with fail
          have HG := HG0
          have HR : Hid (Rch a b xs0 xs0) := Lib.hid (Rch.refl _ _ _)
          have HY : Hid (∀ p, xs0[p]? = RotT xs0 s m e p) := Lib.hid (rot_same (by omega) (by omega) (by omega))
          obtain ⟨q1, q2, q3, q4, q5, q6, q7⟩ := HH.out xs0 HY.out
          have Q1 := Lib.hid q1; have Q2 := Lib.hid q2; have Q3 := Lib.hid q3; have Q4 := Lib.hid q4; have Q5 := Lib.hid q5; have Q6 := Lib.hid q6; have Q7 := Lib.hid q7
          clear q1 q2 q3 q4 q5 q6 q7
          refine (IH.out a s mid xs0 _ (by omega) (Lib.hid HG.out.1) (by omega) (by omega) (by omega) (by omega) Q1 Q2 Q3).mono ?_
          rintro e1 w3 ⟨rfl, zs, ⟨t1, t2⟩, t3, t4⟩
          have HGz := Lib.hid (HG.out.call t3 t4)
          have HRz := Lib.hid t1
          have HSz := Lib.hid t2
          have hzl := t1.len
          clear t1 t2 t3 t4
          go_wp2_with fail
          have HSu : Hid (SrtB zs mid b) := by
            rcases (show mid = e ∨ e = b by omega) with h | h
            · rw [h]; exact Lib.hid (Q5.out.out HRz.out (.inr (by omega)))
            · rw [← h]; exact Lib.hid (Q4.out.out HRz.out (.inr (Nat.le_refl _)))
          go_end0
          exact ⟨rfl, zs, ⟨HR.out.trans (HRz.out.mono (Nat.le_refl _) (by omega)), halves_join Q7.out HRz.out (Rch.refl _ _ _) HSz.out HSu.out⟩, HGz.out.1, HGz.out.2⟩
        · have gi4 : ¬ (s : Int) < mid := by omega
          go_wp2_with fail
          have HG := HG0
          have HR : Hid (Rch a b xs0 xs0) := Lib.hid (Rch.refl _ _ _)
          have HY : Hid (∀ p, xs0[p]? = RotT xs0 s m e p) := Lib.hid (rot_same (by omega) (by omega) (by omega))
          obtain ⟨q1, q2, q3, q4, q5, q6, q7⟩ := HH.out xs0 HY.out
          have Q1 := Lib.hid q1; have Q2 := Lib.hid q2; have Q3 := Lib.hid q3; have Q4 := Lib.hid q4; have Q5 := Lib.hid q5; have Q6 := Lib.hid q6; have Q7 := Lib.hid q7
          clear q1 q2 q3 q4 q5 q6 q7
          have HRz : Hid (Rch a mid xs0 xs0) := Lib.hid (Rch.refl _ _ _)
          have HSz : Hid (SrtB xs0 a mid) := by
            rcases (show a = s ∨ s = mid by omega) with h | h
            · rw [h]; exact Q2
            · rw [← h]; exact Q1
          have HSu : Hid (SrtB xs0 mid b) := by
            rcases (show mid = e ∨ e = b by omega) with h | h
            · rw [h]; exact Lib.hid (Q5.out.out HRz.out (.inr (by omega)))
            · rw [← h]; exact Lib.hid (Q4.out.out HRz.out (.inr (Nat.le_refl _)))
          go_end0
          exact ⟨rfl, xs0, ⟨HR.out.trans (HRz.out.mono (Nat.le_refl _) (by omega)), halves_join Q7.out HRz.out (Rch.refl _ _ _) HSz.out HSu.out⟩, HG.out.1, HG.out.2⟩
  · have hmm' : (mid : Int) < m := by omega
    obtain ⟨sb, hsb⟩ : ∃ p : Nat, mid + m - b = p := ⟨_, rfl⟩
    have es : (n0 : Int) - (b : Int) = (sb : Int) := by omega
    have HSB := Lib.hid hsb
    clear hsb
    go_enter Try.func113, Try.ntmps113
    go_wp2_with fail
    go_loopw [20, 21] (fun sv rv wr => ∃ s r : Nat, Hid (KGo W base g cap xs0 wr) ∧ sv = .int .i64 s ∧ rv = .int .i64 r ∧ sb ≤ s ∧ s ≤ r ∧ r ≤ mid ∧ Hid (B3 xs0 p0 (sb) (mid) s r)) (fun sv rv _ => (intOf rv).toNat - (intOf sv).toNat)
    case atStart => exact ⟨sb, mid, Lib.hid (KGo.start hK.out), rfl, rfl, Nat.le_refl _, by omega, Nat.le_refl _, Lib.hid (B3.start _ (by omega))⟩
    case round =>
    obtain ⟨s, r, HG0, rfl, rfl, hs1, hs2, hr2, HB⟩ := hrel
    by_cases hij : s < r
    · obtain ⟨h, h1, h2, h3, h4⟩ := half_nat s r hij (by omega)
      obtain ⟨x, hx⟩ := get_of_lt (xs := xs0) (i := h) (by omega)
      obtain ⟨ph, hph⟩ : ∃ p : Nat, p0 - h = p := ⟨_, rfl⟩
      obtain ⟨y, hy⟩ := get_of_lt (xs := xs0) (i := ph) (by omega)
      have eh : (p0 : Int) - (h : Int) = (ph : Int) := by omega
      have HPH := Lib.hid hph
      clear hph
      have hc1 := HG0.out.1.at_ hx
      have hc2 := HG0.out.1.at_ hy
      have HL := Lib.hid (HG0.out.1.less hy hx)
      have HX1 := Lib.hid hx
      have HY1 := Lib.hid hy
      have hb1 : h < xs0.length := by omega
      have hb2 : ph < xs0.length := by omega
      clear hy hx
      by_cases hk : y.key < x.key
      · have hcm := cmpI_lt hk
        have HB2 := Lib.hid (HB.out.down S1.out S2.out (by omega) (by omega) (by omega) (by omega) h1 h2 HX1.out (by rw [HPH.out]; exact HY1.out) hk)
        clear hk
        go_wp2_with (go_quiet ((go_at_call 79; exact HL.out _)))
        exact ⟨⟨s, h, Lib.hid (HG0.out.drewN _), rfl, rfl, by omega, by omega, by omega, HB2⟩, by simp [intOf]; omega⟩
      · have hcm := cmpI_nlt hk
        have HB2 := Lib.hid (HB.out.up S1.out S2.out (by omega) (by omega) (by omega) (by omega) h1 h2 HX1.out (by rw [HPH.out]; exact HY1.out) hk)
        clear hk
        go_wp2_with (go_quiet ((go_at_call 79; exact HL.out _)))
        exact ⟨⟨h + 1, r, Lib.hid (HG0.out.drewN _), by go_num, rfl, by omega, by omega, hr2, HB2⟩, by simp [intOf]; omega⟩
    · have hnij : ¬ ((s : Int) < r) := by omega
      obtain rfl : s = r := by omega
      have HC := Lib.hid (B3.cut (s0 := sb) (r0 := mid) S1.out S2.out hb ham hmb HMID.out (.inr ⟨by omega, HSB.out.symm, rfl⟩) (by rw [HP0.out]; exact HB.out))
      obtain ⟨c1, c2, c3, c4, c5, _, _⟩ := HC.out
      have HH := Lib.hid (fun ys hy => HC.out.halves (ys := ys) S1.out S2.out HX.out hy)
      obtain ⟨e, he⟩ : ∃ e, mid + m - s = e := ⟨_, rfl⟩
      have ee : (n0 : Int) - (s : Int) = (e : Int) := by omega
      rw [he] at HH c4 c5
      have HE0 := Lib.hid he
      clear he
      by_cases g1 : s < m ∧ m < e
      · have gi1 : (s : Int) < m := by omega
        have gi2 : (m : Int) < e := by omega
        have gi4 : (s : Int) < mid := by omega
        have gi5 : (mid : Int) < e := by omega
        by_cases g2 : a < s <;> by_cases g3 : e < b
        · have gi3 : (a : Int) < s := by omega
          have gi6 : (e : Int) < b := by omega
          go_wp2_with fail
          refine (rot_any base g cap s m e xs0 _ (Lib.hid HG0.out.1) (by omega) (by omega) (by omega) hn _).mono ?_
          rintro e1 w2 ⟨rfl, ys, ⟨r1, r2⟩, r3, r4⟩
          have HG := Lib.hid (HG0.out.call r3 r4)
          have HR := Lib.hid (r1.mono c1 c4)
          have HY := Lib.hid r2
          have hyl := r1.len
          clear r1 r2 r3 r4
          obtain ⟨q1, q2, q3, q4, q5, q6, q7⟩ := HH.out ys HY.out
          have Q1 := Lib.hid q1; have Q2 := Lib.hid q2; have Q3 := Lib.hid q3; have Q4 := Lib.hid q4; have Q5 := Lib.hid q5; have Q6 := Lib.hid q6; have Q7 := Lib.hid q7
          clear q1 q2 q3 q4 q5 q6 q7
          go_wp2_with fail
          rw [← hyl]
          refine (IH.out a s mid ys _ (by omega) (Lib.hid HG.out.1) (by omega) (by omega) (by omega) (by omega) Q1 Q2 Q3).mono ?_
          rintro e1 w3 ⟨rfl, zs, ⟨t1, t2⟩, t3, t4⟩
          have HGz := Lib.hid (HG.out.call t3 t4)
          have HRz := Lib.hid t1
          have HSz := Lib.hid t2
          have hzl := t1.len
          clear t1 t2 t3 t4
          rw [hyl]
          go_wp2_with fail
          rw [show xs0.length = zs.length by omega]
          refine (IH.out mid e b zs _ (by omega) (Lib.hid HGz.out.1) (by omega) (by omega) (by omega) (by omega) (Lib.hid (Q4.out.out HRz.out (.inr (Nat.le_refl _)))) (Lib.hid (Q5.out.out HRz.out (.inr (by omega)))) (Lib.hid (HRz.out.ixx Q6.out (.inl (Nat.le_refl _))))).mono ?_
          rintro e1 w4 ⟨rfl, us, ⟨t1, t2⟩, t3, t4⟩
          have HGu := Lib.hid (HGz.out.call t3 t4)
          have HRu := Lib.hid t1
          have HSu := Lib.hid t2
          clear t1 t2 t3 t4
          go_wp2_with fail
          go_end0
          exact ⟨rfl, us, ⟨(HR.out.trans (HRz.out.mono (Nat.le_refl _) (by omega))).trans (HRu.out.mono (by omega) (Nat.le_refl _)), halves_join Q7.out HRz.out HRu.out HSz.out HSu.out⟩, HGu.out.1, HGu.out.2⟩
        · have gi3 : (a : Int) < s := by omega
          have gi6 : ¬ (e : Int) < b := by omega
          go_wp2_with fail
          refine (rot_any base g cap s m e xs0 _ (Lib.hid HG0.out.1) (by omega) (by omega) (by omega) hn _).mono ?_
          rintro e1 w2 ⟨rfl, ys, ⟨r1, r2⟩, r3, r4⟩
          have HG := Lib.hid (HG0.out.call r3 r4)
          have HR := Lib.hid (r1.mono c1 c4)
          have HY := Lib.hid r2
          have hyl := r1.len
          clear r1 r2 r3 r4
          obtain ⟨q1, q2, q3, q4, q5, q6, q7⟩ := HH.out ys HY.out
          have Q1 := Lib.hid q1; have Q2 := Lib.hid q2; have Q3 := Lib.hid q3; have Q4 := Lib.hid q4; have Q5 := Lib.hid q5; have Q6 := Lib.hid q6; have Q7 := Lib.hid q7
          clear q1 q2 q3 q4 q5 q6 q7
          go_wp2_with fail
          rw [← hyl]
          refine (IH.out a s mid ys _ (by omega) (Lib.hid HG.out.1) (by omega) (by omega) (by omega) (by omega) Q1 Q2 Q3).mono ?_
          rintro e1 w3 ⟨rfl, zs, ⟨t1, t2⟩, t3, t4⟩
          have HGz := Lib.hid (HG.out.call t3 t4)
          have HRz := Lib.hid t1
          have HSz := Lib.hid t2
          have hzl := t1.len
          clear t1 t2 t3 t4
          rw [hyl]
          go_wp2_with fail
          have HSu : Hid (SrtB zs mid b) := by
            rcases (show mid = e ∨ e = b by omega) with h | h
            · rw [h]; exact Lib.hid (Q5.out.out HRz.out (.inr (by omega)))
            · rw [← h]; exact Lib.hid (Q4.out.out HRz.out (.inr (Nat.le_refl _)))
          go_end0
          exact ⟨rfl, zs, ⟨HR.out.trans (HRz.out.mono (Nat.le_refl _) (by omega)), halves_join Q7.out HRz.out (Rch.refl _ _ _) HSz.out HSu.out⟩, HGz.out.1, HGz.out.2⟩
        · have gi3 : ¬ (a : Int) < s := by omega
          have gi6 : (e : Int) < b := by omega
          go_wp2_with fail
          refine (rot_any base g cap s m e xs0 _ (Lib.hid HG0.out.1) (by omega) (by omega) (by omega) hn _).mono ?_
          rintro e1 w2 ⟨rfl, ys, ⟨r1, r2⟩, r3, r4⟩
          have HG := Lib.hid (HG0.out.call r3 r4)
          have HR := Lib.hid (r1.mono c1 c4)
          have HY := Lib.hid r2
          have hyl := r1.len
          clear r1 r2 r3 r4
          obtain ⟨q1, q2, q3, q4, q5, q6, q7⟩ := HH.out ys HY.out
          have Q1 := Lib.hid q1; have Q2 := Lib.hid q2; have Q3 := Lib.hid q3; have Q4 := Lib.hid q4; have Q5 := Lib.hid q5; have Q6 := Lib.hid q6; have Q7 := Lib.hid q7
          clear q1 q2 q3 q4 q5 q6 q7
          go_wp2_with fail
          have HRz : Hid (Rch a mid ys ys) := Lib.hid (Rch.refl _ _ _)
          have HSz : Hid (SrtB ys a mid) := by
            rcases (show a = s ∨ s = mid by omega) with h | h
            · rw [h]; exact Q2
            · rw [← h]; exact Q1
          rw [show xs0.length = ys.length by omega]
          refine (IH.out mid e b ys _ (by omega) (Lib.hid HG.out.1) (by omega) (by omega) (by omega) (by omega) (Lib.hid (Q4.out.out HRz.out (.inr (Nat.le_refl _)))) (Lib.hid (Q5.out.out HRz.out (.inr (by omega)))) (Lib.hid (HRz.out.ixx Q6.out (.inl (Nat.le_refl _))))).mono ?_
          rintro e1 w4 ⟨rfl, us, ⟨t1, t2⟩, t3, t4⟩
          have HGu := Lib.hid (HG.out.call t3 t4)
          have HRu := Lib.hid t1
          have HSu := Lib.hid t2
          clear t1 t2 t3 t4
          go_wp2_with fail
          go_end0
          exact ⟨rfl, us, ⟨(HR.out.trans (HRz.out.mono (Nat.le_refl _) (by omega))).trans (HRu.out.mono (by omega) (Nat.le_refl _)), halves_join Q7.out HRz.out HRu.out HSz.out HSu.out⟩, HGu.out.1, HGu.out.2⟩
        · have gi3 : ¬ (a : Int) < s := by omega
          have gi6 : ¬ (e : Int) < b := by omega
          go_wp2_with fail
          refine (rot_any base g cap s m e xs0 _ (Lib.hid HG0.out.1) (by omega) (by omega) (by omega) hn _).mono ?_
          rintro e1 w2 ⟨rfl, ys, ⟨r1, r2⟩, r3, r4⟩
          have HG := Lib.hid (HG0.out.call r3 r4)
          have HR := Lib.hid (r1.mono c1 c4)
          have HY := Lib.hid r2
          have hyl := r1.len
          clear r1 r2 r3 r4
          obtain ⟨q1, q2, q3, q4, q5, q6, q7⟩ := HH.out ys HY.out
          have Q1 := Lib.hid q1; have Q2 := Lib.hid q2; have Q3 := Lib.hid q3; have Q4 := Lib.hid q4; have Q5 := Lib.hid q5; have Q6 := Lib.hid q6; have Q7 := Lib.hid q7
          clear q1 q2 q3 q4 q5 q6 q7
          go_wp2_with fail
          have HRz : Hid (Rch a mid ys ys) := Lib.hid (Rch.refl _ _ _)
          have HSz : Hid (SrtB ys a mid) := by
            rcases (show a = s ∨ s = mid by omega) with h | h
            · rw [h]; exact Q2
            · rw [← h]; exact Q1
          have HSu : Hid (SrtB ys mid b) := by
            rcases (show mid = e ∨ e = b by omega) with h | h
            · rw [h]; exact Lib.hid (Q5.out.out HRz.out (.inr (by omega)))
            · rw [← h]; exact Lib.hid (Q4.out.out HRz.out (.inr (Nat.le_refl _)))
          go_end0
          exact ⟨rfl, ys, ⟨HR.out.trans (HRz.out.mono (Nat.le_refl _) (by omega)), halves_join Q7.out HRz.out (Rch.refl _ _ _) HSz.out HSu.out⟩, HG.out.1, HG.out.2⟩
      by_cases g2 : s < m
      · have gi1 : (s : Int) < m := by omega
        have gi2 : ¬ (m : Int) < e := by omega
        have gi4 : ¬ (s : Int) < mid := by omega
        have gi5 : (mid : Int) < e := by omega
        have gi6 : (e : Int) < b := by omega
        by_cases g3 : a < s
        · have gi3 : (a : Int) < s := by omega
          go_wp2_with fail
          have HG := HG0
          have HR : Hid (Rch a b xs0 xs0) := Lib.hid (Rch.refl _ _ _)
          have HY : Hid (∀ p, xs0[p]? = RotT xs0 s m e p) := Lib.hid (rot_same (by omega) (by omega) (by omega))
          obtain ⟨q1, q2, q3, q4, q5, q6, q7⟩ := HH.out xs0 HY.out
          have Q1 := Lib.hid q1; have Q2 := Lib.hid q2; have Q3 := Lib.hid q3; have Q4 := Lib.hid q4; have Q5 := Lib.hid q5; have Q6 := Lib.hid q6; have Q7 := Lib.hid q7
          clear q1 q2 q3 q4 q5 q6 q7
          have HRz : Hid (Rch a mid xs0 xs0) := Lib.hid (Rch.refl _ _ _)
          have HSz : Hid (SrtB xs0 a mid) := by
            rcases (show a = s ∨ s = mid by omega) with h | h
            · rw [h]; exact Q2
            · rw [← h]; exact Q1
          refine (IH.out mid e b xs0 _ (by omega) (Lib.hid HG.out.1) (by omega) (by omega) (by omega) (by omega) (Lib.hid (Q4.out.out HRz.out (.inr (Nat.le_refl _)))) (Lib.hid (Q5.out.out HRz.out (.inr (by omega)))) (Lib.hid (HRz.out.ixx Q6.out (.inl (Nat.le_refl _))))).mono ?_
          rintro e1 w4 ⟨rfl, us, ⟨t1, t2⟩, t3, t4⟩
          have HGu := Lib.hid (HG.out.call t3 t4)
          have HRu := Lib.hid t1
          have HSu := Lib.hid t2
          clear t1 t2 t3 t4
          go_wp2_with fail
          go_end0
          exact ⟨rfl, us, ⟨(HR.out.trans (HRz.out.mono (Nat.le_refl _) (by omega))).trans (HRu.out.mono (by omega) (Nat.le_refl _)), halves_join Q7.out HRz.out HRu.out HSz.out HSu.out⟩, HGu.out.1, HGu.out.2⟩
        · have gi3 : ¬ (a : Int) < s := by omega
          go_wp2_with fail
          have HG := HG0
          have HR : Hid (Rch a b xs0 xs0) := Lib.hid (Rch.refl _ _ _)
          have HY : Hid (∀ p, xs0[p]? = RotT xs0 s m e p) := Lib.hid (rot_same (by omega) (by omega) (by omega))
          obtain ⟨q1, q2, q3, q4, q5, q6, q7⟩ := HH.out xs0 HY.out
          have Q1 := Lib.hid q1; have Q2 := Lib.hid q2; have Q3 := Lib.hid q3; have Q4 := Lib.hid q4; have Q5 := Lib.hid q5; have Q6 := Lib.hid q6; have Q7 := Lib.hid q7
          clear q1 q2 q3 q4 q5 q6 q7
          have HRz : Hid (Rch a mid xs0 xs0) := Lib.hid (Rch.refl _ _ _)
          have HSz : Hid (SrtB xs0 a mid) := by
            rcases (show a = s ∨ s = mid by omega) with h | h
            · rw [h]; exact Q2
            · rw [← h]; exact Q1
          refine (IH.out mid e b xs0 _ (by omega) (Lib.hid HG.out.1) (by omega) (by omega) (by omega) (by omega) (Lib.hid (Q4.out.out HRz.out (.inr (Nat.le_refl _)))) (Lib.hid (Q5.out.out HRz.out (.inr (by omega)))) (Lib.hid (HRz.out.ixx Q6.out (.inl (Nat.le_refl _))))).mono ?_
          rintro e1 w4 ⟨rfl, us, ⟨t1, t2⟩, t3, t4⟩
          have HGu := Lib.hid (HG.out.call t3 t4)
          have HRu := Lib.hid t1
          have HSu := Lib.hid t2
          clear t1 t2 t3 t4
          go_wp2_with fail
          go_end0
          exact ⟨rfl, us, ⟨(HR.out.trans (HRz.out.mono (Nat.le_refl _) (by omega))).trans (HRu.out.mono (by omega) (Nat.le_refl _)), halves_join Q7.out HRz.out HRu.out HSz.out HSu.out⟩, HGu.out.1, HGu.out.2⟩
      · exfalso; omega
end Go.Proofs.Ytdaagdohhnhbdaa
