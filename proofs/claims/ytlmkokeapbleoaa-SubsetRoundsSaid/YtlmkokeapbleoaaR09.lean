/- Two sorted stretches of a row merged in place: the library's walk. Condition: as StabRow says. The library's stable sort of a row of slices by the least numbers of what they hold. Condition: as StabRow says. Rows of sets that are built up and sorted: what parting by one more set makes, the row on its way, its sorting. Condition: none. Contract of minterm.Refine: the parts of some lists by one more set, sorted; or that there are too many. Condition: the lists at hand are known, fewer than 2^20. An argument that is a slice of spans, opened to its cells: the list it holds, whose numbers are ints. Condition: none. An argument that is a slice of slices of spans, opened to its cells. Condition: none. Contracts of the small functions of layer 5: great, Class, the document's Class and Same. Condition: the lists at hand are known. Contract of minterm.Split; the law's awake. Condition: the lists at hand are known, the family has fewer than 2^20 sets. Contracts of minterm.Row and minterm.Least. Condition: the lists at hand are known, at most 256. -/
import Derived.Test.YtlmkokeapbleoaaR08
import Derived.Test.YtlmkokeapbleoaaR04
import Derived.Test.YtlmkokeapbleoaaR01
import Derived.Deep.SlicePairs
import Derived.ChangeArms
import Derived.ChangeSame
import Derived.Deep.Slices
import Derived.Laws.OwnMore
set_option maxRecDepth 100000
set_option maxHeartbeats 64000000
set_option linter.unusedVariables false
set_option linter.unusedSimpArgs false
section
namespace Go.Proofs.Ytlmkokeapbleoaa
open Go.RowKit
theorem u64_id {x : Int} (h0 : 0 ≤ x) (h1 : x ≤ 9223372036854775807) : IntKind.u64.wrap x = x := by
  show x % 18446744073709551616 = x
  omega
theorem half_nat (i j : Nat) (h : i < j) (hb : j < 1099511627776) : ∃ k : Nat, i ≤ k ∧ k < j ∧ IntKind.u64.wrap ((i : Int) + (j : Int)) = (i : Int) + (j : Int) ∧ ((i : Int) + (j : Int)) / 2 = (k : Int) :=
  ⟨(i + j) / 2, by omega, by omega, u64_id (by omega) (by omega), by omega⟩
theorem sym_any (base g cap : Nat) (N : Nat) : ∀ (a m b : Nat) (xs0 : List KV) (W : World), b - a ≤ N → Hid (KSt W base g cap xs0) → a < m → m < b → b ≤ xs0.length → xs0.length < 1099511627776 →
    Hid (SrtB xs0 a m) → Hid (SrtB xs0 m b) → Hid (IxX xs0 a m b) →
    Calls Try.prog 65 #[.slice (some ⟨g, 0, none⟩) xs0.length cap, .int .i64 a, .int .i64 m, .int .i64 b, .func (.func 44) #[] #[]] W (KEnd W base g cap fun ys => Rch a b xs0 ys ∧ SrtB ys a b) := by
  induction N with
  | zero => intro a m b xs0 W h; omega
  | succ N ih =>
  intro a m b xs0 W hN hK ham hmb hb hn S1 S2 HX
  have eg := eg79
  have IH := Lib.hid ih
  clear ih
  by_cases hma : m - a = 1
  · have hm : Hid (m = a + 1) := Lib.hid (by omega)
    have hm1 : ((m : Int) - (a : Int) == 1) = true := by rw [beq_iff_eq]; omega
    obtain ⟨x, hx⟩ := get_of_lt (xs := xs0) (i := a) (by omega)
    have HXA := Lib.hid hx
    go_enter Try.func65, Try.ntmps65
    go_wp2_with fail
    go_loopw [10, 11] (fun iv jv wr => ∃ i j : Nat, Hid (KGo W base g cap xs0 wr) ∧ iv = .int .i64 i ∧ jv = .int .i64 j ∧ m ≤ i ∧ i ≤ j ∧ j ≤ b ∧ Hid (B1 xs0 m b x.key i j)) (fun iv jv _ => (intOf jv).toNat - (intOf iv).toNat)
    case atStart => exact ⟨m, b, Lib.hid (KGo.start hK.out), rfl, rfl, Nat.le_refl _, by omega, Nat.le_refl _, Lib.hid (B1.start _ _ (by omega))⟩
    case round =>
    obtain ⟨i, j, HG0, rfl, rfl, hi1, hi2, hj2, HB⟩ := hrel
    by_cases hij : i < j
    · obtain ⟨h, h1, h2, h3, h4⟩ := half_nat i j hij (by omega)
      obtain ⟨y, hy⟩ := get_of_lt (xs := xs0) (i := h) (by omega)
      have hc1 := HG0.out.1.at_ HXA.out
      have hc2 := HG0.out.1.at_ hy
      have HL := Lib.hid (HG0.out.1.less hy HXA.out)
      have HY := Lib.hid hy
      have hbl : h < xs0.length := by omega
      have hbl2 : a < xs0.length := by omega
      clear hy hx
      by_cases hk : y.key < x.key
      · have hcm := cmpI_lt hk
        have HB2 := Lib.hid (HB.out.up S2.out h1 h2 HY.out hk)
        clear hk
        go_wp2_with (go_quiet ((go_at_call 44; exact HL.out _)))
        exact ⟨⟨h + 1, j, Lib.hid (HG0.out.drewN _), by go_num, rfl, by omega, by omega, hj2, HB2⟩, by simp [intOf]; omega⟩
      · have hcm := cmpI_nlt hk
        have HB2 := Lib.hid (HB.out.down S2.out h1 h2 HY.out hk)
        clear hk
        go_wp2_with (go_quiet ((go_at_call 44; exact HL.out _)))
        exact ⟨⟨i, h, Lib.hid (HG0.out.drewN _), rfl, rfl, by omega, by omega, by omega, HB2⟩, by simp [intOf]; omega⟩
    · have hnij : ¬ ((i : Int) < j) := by omega
      obtain rfl : i = j := by omega
      obtain ⟨i1, hi1'⟩ : ∃ p : Nat, i - 1 = p := ⟨_, rfl⟩
      have ei : (i : Int) - 1 = (i1 : Int) := by omega
      clear hx
      go_wp2_with fail
      go_loopw [13] (fun kv wr => ∃ (k : Nat) (xs : List KV), kv = .int .i64 k ∧ a ≤ k ∧ k ≤ i1 ∧ Hid (MvU xs0 xs a k) ∧ Hid (Rch a b xs0 xs) ∧ Hid (KGo W base g cap xs wr)) (fun kv _ => i - (intOf kv).toNat)
      case atStart => exact ⟨a, xs0, rfl, Nat.le_refl _, by omega, Lib.hid (MvU.start _ _), Lib.hid (Rch.refl _ _ _), HG0⟩
      case round =>
      obtain ⟨k, xs, rfl, hk1, hk2, HM, HR, HG⟩ := hrel
      have hxl := HR.out.len
      by_cases hlt : k < i1
      · obtain ⟨u, hu⟩ := get_of_lt (xs := xs) (i := k) (by omega)
        obtain ⟨v, hv⟩ := get_of_lt (xs := xs) (i := k + 1) (by omega)
        have hc1 := HG.out.1.at_ hu
        have hc2 := HG.out.1.at_ hv
        have hf1 := HG.out.1.row.frozenAt k
        have hf2 := HG.out.1.row.frozenAt (k + 1)
        have hc3 := HG.out.1.st1 (i := k) v.val hv (by omega)
        unfold KV.val at hc1 hc2 hc3
        have HSW := Lib.hid (HG.out.swp hu hv)
        have HR2 := Lib.hid (HR.out.trans (Rch.swap hu hv (by omega) (by omega) (by omega) (by omega) (by omega)))
        have HM2 := Lib.hid (HM.out.next hu hv)
        have hkl : k + 1 < xs0.length := by omega
        have mixed : Try.prog.follows .mixedOrders = true := by kernel_rfl
        clear hu hv
        go_wp2_with fail
        go_big_region_o
        clear hc1 hc2 hc3 hf1 hf2
        go_wp2_with fail
        exact ⟨⟨k + 1, _, by go_num, by omega, by omega, HM2, HR2, HSW⟩, by simp [intOf]; omega⟩
      · have hnk : ¬ ((k : Int) < (i1 : Int)) := by omega
        obtain rfl : k = i1 := by omega
        go_wp2_with fail
        go_end0
        exact ⟨rfl, xs, ⟨HR.out, MvU.done (i := i) HXA.out (hm.out ▸ S2.out) (hm.out ▸ HX.out) (hm.out ▸ HB.out) (by rw [hi1']; exact HM.out)⟩, HG.out.1, HG.out.2⟩
  have hm1 : ((m : Int) - (a : Int) == 1) = false := by rw [beq_eq_false_iff_ne]; omega
  by_cases hbm : b - m = 1
  · have hbm1 : Hid (b = m + 1) := Lib.hid (by omega)
    have hm2 : ((b : Int) - (m : Int) == 1) = true := by rw [beq_iff_eq]; omega
    obtain ⟨x, hx⟩ := get_of_lt (xs := xs0) (i := m) (by omega)
    have HXA := Lib.hid hx
    go_enter Try.func65, Try.ntmps65
    go_wp2_with fail
    go_loopw [14, 15] (fun iv jv wr => ∃ i j : Nat, Hid (KGo W base g cap xs0 wr) ∧ iv = .int .i64 i ∧ jv = .int .i64 j ∧ a ≤ i ∧ i ≤ j ∧ j ≤ m ∧ Hid (B2 xs0 a m x.key i j)) (fun iv jv _ => (intOf jv).toNat - (intOf iv).toNat)
    case atStart => exact ⟨a, m, Lib.hid (KGo.start hK.out), rfl, rfl, Nat.le_refl _, by omega, Nat.le_refl _, Lib.hid (B2.start _ _ (by omega))⟩
    case round =>
    obtain ⟨i, j, HG0, rfl, rfl, hi1, hi2, hj2, HB⟩ := hrel
    by_cases hij : i < j
    · obtain ⟨h, h1, h2, h3, h4⟩ := half_nat i j hij (by omega)
      obtain ⟨y, hy⟩ := get_of_lt (xs := xs0) (i := h) (by omega)
      have hc1 := HG0.out.1.at_ HXA.out
      have hc2 := HG0.out.1.at_ hy
      have HL := Lib.hid (HG0.out.1.less HXA.out hy)
      have HY := Lib.hid hy
      have hbl : h < xs0.length := by omega
      have hbl2 : m < xs0.length := by omega
      clear hy hx
      by_cases hk : x.key < y.key
      · have hcm := cmpI_lt hk
        have HB2 := Lib.hid (HB.out.down S1.out h1 h2 HY.out hk)
        clear hk
        go_wp2_with (go_quiet ((go_at_call 44; exact HL.out _)))
        exact ⟨⟨i, h, Lib.hid (HG0.out.drewN _), rfl, rfl, by omega, by omega, by omega, HB2⟩, by simp [intOf]; omega⟩
      · have hcm := cmpI_nlt hk
        have HB2 := Lib.hid (HB.out.up S1.out h1 h2 HY.out hk)
        clear hk
        go_wp2_with (go_quiet ((go_at_call 44; exact HL.out _)))
        exact ⟨⟨h + 1, j, Lib.hid (HG0.out.drewN _), by go_num, rfl, by omega, by omega, hj2, HB2⟩, by simp [intOf]; omega⟩
    · have hnij : ¬ ((i : Int) < j) := by omega
      obtain rfl : i = j := by omega
      clear hx
      go_wp2_with fail
      go_loopw [17] (fun kv wr => ∃ (k : Nat) (xs : List KV), kv = .int .i64 k ∧ i ≤ k ∧ k ≤ m ∧ Hid (MvD xs0 xs m k) ∧ Hid (Rch a b xs0 xs) ∧ Hid (KGo W base g cap xs wr)) (fun kv _ => (intOf kv).toNat)
      case atStart => exact ⟨m, xs0, rfl, by omega, Nat.le_refl _, Lib.hid (MvD.start _ _), Lib.hid (Rch.refl _ _ _), HG0⟩
      case round =>
      obtain ⟨k0, xs, rfl, hk1, hk2, HM, HR, HG⟩ := hrel
      have hxl := HR.out.len
      by_cases hlt : i < k0
      · obtain ⟨k, rfl⟩ : ∃ k, k0 = k + 1 := ⟨k0 - 1, by omega⟩
        obtain ⟨u, hu⟩ := get_of_lt (xs := xs) (i := k + 1) (by omega)
        obtain ⟨v, hv⟩ := get_of_lt (xs := xs) (i := k) (by omega)
        have hc1 := HG.out.1.at_ hu
        have hc2 := HG.out.1.at_ hv
        have hf1 := HG.out.1.row.frozenAt k
        have hf2 := HG.out.1.row.frozenAt (k + 1)
        have hc3 := HG.out.1.st1 (i := k + 1) v.val hv (by omega)
        unfold KV.val at hc1 hc2 hc3
        have HSW := Lib.hid (HG.out.swp hu hv)
        have HR2 := Lib.hid (HR.out.trans (Rch.swap hu hv (by omega) (by omega) (by omega) (by omega) (by omega)))
        have HM2 := Lib.hid (HM.out.next (by omega) hu (by simpa using hv))
        rw [Nat.add_sub_cancel] at HM2
        have hkl : k + 1 < xs0.length := by omega
        have hik : (i : Int) < (k : Int) + 1 := by omega
        have mixed : Try.prog.follows .mixedOrders = true := by kernel_rfl
        clear hu hv
        go_wp2_with fail
        go_big_region_o
        clear hc1 hc2 hc3 hf1 hf2
        go_wp2_with fail
        exact ⟨⟨k, _, by go_num, by omega, by omega, HM2, HR2, HSW⟩, by simp [intOf]⟩
      · have hnk : ¬ ((i : Int) < (k0 : Int)) := by omega
        obtain rfl : k0 = i := by omega
        go_wp2_with fail
        go_end0
        exact ⟨rfl, xs, ⟨HR.out, hbm1.out ▸ HM.out.done HXA.out S1.out (hbm1.out ▸ HX.out) HB.out⟩, HG.out.1, HG.out.2⟩
  have hm2 : ((b : Int) - (m : Int) == 1) = false := by rw [beq_eq_false_iff_ne]; omega
  obtain ⟨mid, k1, k2, k3, k4⟩ := half_nat a b (by omega) (by omega)
  have HMID : Hid (mid = (a + b) / 2) := Lib.hid (by omega)
  obtain ⟨n0, hn0⟩ : ∃ p : Nat, mid + m = p := ⟨_, rfl⟩
  obtain ⟨p0, hp0⟩ : ∃ p : Nat, mid + m - 1 = p := ⟨_, rfl⟩
  have en : (mid : Int) + (m : Int) = (n0 : Int) := by omega
  have ep : (n0 : Int) - 1 = (p0 : Int) := by omega
  have HP0 := Lib.hid hp0
  have hmid2 : 2 * mid ≤ a + b ∧ a + b ≤ 2 * mid + 1 := by omega
  clear hn0 hp0
  by_cases hmm : m ≤ mid
  · have hmm' : ¬ ((mid : Int) < m) := by omega
    go_enter Try.func65, Try.ntmps65
    go_wp2_with fail
    go_loopw [20, 21] (fun sv rv wr => ∃ s r : Nat, Hid (KGo W base g cap xs0 wr) ∧ sv = .int .i64 s ∧ rv = .int .i64 r ∧ a ≤ s ∧ s ≤ r ∧ r ≤ m ∧ Hid (B3 xs0 p0 (a) (m) s r)) (fun sv rv _ => (intOf rv).toNat - (intOf sv).toNat)
    case atStart => exact ⟨a, m, Lib.hid (KGo.start hK.out), rfl, rfl, Nat.le_refl _, by omega, Nat.le_refl _, Lib.hid (B3.start _ (by omega))⟩
    case round =>
    obtain ⟨s, r, HG0, rfl, rfl, hs1, hs2, hr2, HB⟩ := hrel
    by_cases hij : s < r
    · obtain ⟨h, h1, h2, h3, h4⟩ := half_nat s r hij (by omega)
      obtain ⟨x, hx⟩ := get_of_lt (xs := xs0) (i := h) (by omega)
      obtain ⟨ph, hph⟩ : ∃ p : Nat, p0 - h = p := ⟨_, rfl⟩
      obtain ⟨y, hy⟩ := get_of_lt (xs := xs0) (i := ph) (by omega)
      have eh : (p0 : Int) - (h : Int) = (ph : Int) := by omega
      have HPH := Lib.hid hph
      clear hph
      have hc1 := HG0.out.1.at_ hx
      have hc2 := HG0.out.1.at_ hy
      have HL := Lib.hid (HG0.out.1.less hy hx)
      have HX1 := Lib.hid hx
      have HY1 := Lib.hid hy
      have hb1 : h < xs0.length := by omega
      have hb2 : ph < xs0.length := by omega
      clear hy hx
      by_cases hk : y.key < x.key
      · have hcm := cmpI_lt hk
        have HB2 := Lib.hid (HB.out.down S1.out S2.out (by omega) (by omega) (by omega) (by omega) h1 h2 HX1.out (by rw [HPH.out]; exact HY1.out) hk)
        clear hk
        go_wp2_with (go_quiet ((go_at_call 44; exact HL.out _)))
        exact ⟨⟨s, h, Lib.hid (HG0.out.drewN _), rfl, rfl, by omega, by omega, by omega, HB2⟩, by simp [intOf]; omega⟩
      · have hcm := cmpI_nlt hk
        have HB2 := Lib.hid (HB.out.up S1.out S2.out (by omega) (by omega) (by omega) (by omega) h1 h2 HX1.out (by rw [HPH.out]; exact HY1.out) hk)
        clear hk
        go_wp2_with (go_quiet ((go_at_call 44; exact HL.out _)))
        exact ⟨⟨h + 1, r, Lib.hid (HG0.out.drewN _), by go_num, rfl, by omega, by omega, hr2, HB2⟩, by simp [intOf]; omega⟩
    · have hnij : ¬ ((s : Int) < r) := by omega
      obtain rfl : s = r := by omega
      have HC := Lib.hid (B3.cut (s0 := a) (r0 := m) S1.out S2.out hb ham hmb HMID.out (.inl ⟨hmm, rfl, rfl⟩) (by rw [HP0.out]; exact HB.out))
      obtain ⟨c1, c2, c3, c4, c5, _, _⟩ := HC.out
      have HH := Lib.hid (fun ys hy => HC.out.halves (ys := ys) S1.out S2.out HX.out hy)
      obtain ⟨e, he⟩ : ∃ e, mid + m - s = e := ⟨_, rfl⟩
      have ee : (n0 : Int) - (s : Int) = (e : Int) := by omega
      rw [he] at HH c4 c5
      have HE0 := Lib.hid he
      clear he
      by_cases g1 : s < m ∧ m < e
      · have gi1 : (s : Int) < m := by omega
        have gi2 : (m : Int) < e := by omega
        have gi4 : (s : Int) < mid := by omega
        have gi5 : (mid : Int) < e := by omega
        by_cases g2 : a < s <;> by_cases g3 : e < b
        · have gi3 : (a : Int) < s := by omega
          have gi6 : (e : Int) < b := by omega
          go_wp2_with fail
          refine (rot_any base g cap s m e xs0 _ (Lib.hid HG0.out.1) (by omega) (by omega) (by omega) hn _).mono ?_
          rintro e1 w2 ⟨rfl, ys, ⟨r1, r2⟩, r3, r4⟩
          have HG := Lib.hid (HG0.out.call r3 r4)
          have HR := Lib.hid (r1.mono c1 c4)
          have HY := Lib.hid r2
          have hyl := r1.len
          clear r1 r2 r3 r4
          obtain ⟨q1, q2, q3, q4, q5, q6, q7⟩ := HH.out ys HY.out
          have Q1 := Lib.hid q1; have Q2 := Lib.hid q2; have Q3 := Lib.hid q3; have Q4 := Lib.hid q4; have Q5 := Lib.hid q5; have Q6 := Lib.hid q6; have Q7 := Lib.hid q7
          clear q1 q2 q3 q4 q5 q6 q7
          go_wp2_with fail
          rw [← hyl]
          refine (IH.out a s mid ys _ (by omega) (Lib.hid HG.out.1) (by omega) (by omega) (by omega) (by omega) Q1 Q2 Q3).mono ?_
          rintro e1 w3 ⟨rfl, zs, ⟨t1, t2⟩, t3, t4⟩
          have HGz := Lib.hid (HG.out.call t3 t4)
          have HRz := Lib.hid t1
          have HSz := Lib.hid t2
          have hzl := t1.len
          clear t1 t2 t3 t4
          rw [hyl]
          go_wp2_with fail
          rw [show xs0.length = zs.length by omega]
          refine (IH.out mid e b zs _ (by omega) (Lib.hid HGz.out.1) (by omega) (by omega) (by omega) (by omega) (Lib.hid (Q4.out.out HRz.out (.inr (Nat.le_refl _)))) (Lib.hid (Q5.out.out HRz.out (.inr (by omega)))) (Lib.hid (HRz.out.ixx Q6.out (.inl (Nat.le_refl _))))).mono ?_
          rintro e1 w4 ⟨rfl, us, ⟨t1, t2⟩, t3, t4⟩
          have HGu := Lib.hid (HGz.out.call t3 t4)
          have HRu := Lib.hid t1
          have HSu := Lib.hid t2
          clear t1 t2 t3 t4
          go_wp2_with fail
          go_end0
          exact ⟨rfl, us, ⟨(HR.out.trans (HRz.out.mono (Nat.le_refl _) (by omega))).trans (HRu.out.mono (by omega) (Nat.le_refl _)), halves_join Q7.out HRz.out HRu.out HSz.out HSu.out⟩, HGu.out.1, HGu.out.2⟩
        · have gi3 : (a : Int) < s := by omega
          have gi6 : ¬ (e : Int) < b := by omega
          go_wp2_with fail
          refine (rot_any base g cap s m e xs0 _ (Lib.hid HG0.out.1) (by omega) (by omega) (by omega) hn _).mono ?_
          rintro e1 w2 ⟨rfl, ys, ⟨r1, r2⟩, r3, r4⟩
          have HG := Lib.hid (HG0.out.call r3 r4)
          have HR := Lib.hid (r1.mono c1 c4)
          have HY := Lib.hid r2
          have hyl := r1.len
          clear r1 r2 r3 r4
          obtain ⟨q1, q2, q3, q4, q5, q6, q7⟩ := HH.out ys HY.out
          have Q1 := Lib.hid q1; have Q2 := Lib.hid q2; have Q3 := Lib.hid q3; have Q4 := Lib.hid q4; have Q5 := Lib.hid q5; have Q6 := Lib.hid q6; have Q7 := Lib.hid q7
          clear q1 q2 q3 q4 q5 q6 q7
          go_wp2_with fail
          rw [← hyl]
          refine (IH.out a s mid ys _ (by omega) (Lib.hid HG.out.1) (by omega) (by omega) (by omega) (by omega) Q1 Q2 Q3).mono ?_
          rintro e1 w3 ⟨rfl, zs, ⟨t1, t2⟩, t3, t4⟩
          have HGz := Lib.hid (HG.out.call t3 t4)
          have HRz := Lib.hid t1
          have HSz := Lib.hid t2
          have hzl := t1.len
          clear t1 t2 t3 t4
          rw [hyl]
          go_wp2_with fail
          have HSu : Hid (SrtB zs mid b) := by
            rcases (show mid = e ∨ e = b by omega) with h | h
            · rw [h]; exact Lib.hid (Q5.out.out HRz.out (.inr (by omega)))
            · rw [← h]; exact Lib.hid (Q4.out.out HRz.out (.inr (Nat.le_refl _)))
          go_end0
          exact ⟨rfl, zs, ⟨HR.out.trans (HRz.out.mono (Nat.le_refl _) (by omega)), halves_join Q7.out HRz.out (Rch.refl _ _ _) HSz.out HSu.out⟩, HGz.out.1, HGz.out.2⟩
        · have gi3 : ¬ (a : Int) < s := by omega
          have gi6 : (e : Int) < b := by omega
          go_wp2_with fail
          refine (rot_any base g cap s m e xs0 _ (Lib.hid HG0.out.1) (by omega) (by omega) (by omega) hn _).mono ?_
          rintro e1 w2 ⟨rfl, ys, ⟨r1, r2⟩, r3, r4⟩
          have HG := Lib.hid (HG0.out.call r3 r4)
          have HR := Lib.hid (r1.mono c1 c4)
          have HY := Lib.hid r2
          have hyl := r1.len
          clear r1 r2 r3 r4
          obtain ⟨q1, q2, q3, q4, q5, q6, q7⟩ := HH.out ys HY.out
          have Q1 := Lib.hid q1; have Q2 := Lib.hid q2; have Q3 := Lib.hid q3; have Q4 := Lib.hid q4; have Q5 := Lib.hid q5; have Q6 := Lib.hid q6; have Q7 := Lib.hid q7
          clear q1 q2 q3 q4 q5 q6 q7
          go_wp2_with fail
          have HRz : Hid (Rch a mid ys ys) := Lib.hid (Rch.refl _ _ _)
          have HSz : Hid (SrtB ys a mid) := by
            rcases (show a = s ∨ s = mid by omega) with h | h
            · rw [h]; exact Q2
            · rw [← h]; exact Q1
          rw [show xs0.length = ys.length by omega]
          refine (IH.out mid e b ys _ (by omega) (Lib.hid HG.out.1) (by omega) (by omega) (by omega) (by omega) (Lib.hid (Q4.out.out HRz.out (.inr (Nat.le_refl _)))) (Lib.hid (Q5.out.out HRz.out (.inr (by omega)))) (Lib.hid (HRz.out.ixx Q6.out (.inl (Nat.le_refl _))))).mono ?_
          rintro e1 w4 ⟨rfl, us, ⟨t1, t2⟩, t3, t4⟩
          have HGu := Lib.hid (HG.out.call t3 t4)
          have HRu := Lib.hid t1
          have HSu := Lib.hid t2
          clear t1 t2 t3 t4
          go_wp2_with fail
          go_end0
          exact ⟨rfl, us, ⟨(HR.out.trans (HRz.out.mono (Nat.le_refl _) (by omega))).trans (HRu.out.mono (by omega) (Nat.le_refl _)), halves_join Q7.out HRz.out HRu.out HSz.out HSu.out⟩, HGu.out.1, HGu.out.2⟩
        · have gi3 : ¬ (a : Int) < s := by omega
          have gi6 : ¬ (e : Int) < b := by omega
          go_wp2_with fail
          refine (rot_any base g cap s m e xs0 _ (Lib.hid HG0.out.1) (by omega) (by omega) (by omega) hn _).mono ?_
          rintro e1 w2 ⟨rfl, ys, ⟨r1, r2⟩, r3, r4⟩
          have HG := Lib.hid (HG0.out.call r3 r4)
          have HR := Lib.hid (r1.mono c1 c4)
          have HY := Lib.hid r2
          have hyl := r1.len
          clear r1 r2 r3 r4
          obtain ⟨q1, q2, q3, q4, q5, q6, q7⟩ := HH.out ys HY.out
          have Q1 := Lib.hid q1; have Q2 := Lib.hid q2; have Q3 := Lib.hid q3; have Q4 := Lib.hid q4; have Q5 := Lib.hid q5; have Q6 := Lib.hid q6; have Q7 := Lib.hid q7
          clear q1 q2 q3 q4 q5 q6 q7
          go_wp2_with fail
          have HRz : Hid (Rch a mid ys ys) := Lib.hid (Rch.refl _ _ _)
          have HSz : Hid (SrtB ys a mid) := by
            rcases (show a = s ∨ s = mid by omega) with h | h
            · rw [h]; exact Q2
            · rw [← h]; exact Q1
          have HSu : Hid (SrtB ys mid b) := by
            rcases (show mid = e ∨ e = b by omega) with h | h
            · rw [h]; exact Lib.hid (Q5.out.out HRz.out (.inr (by omega)))
            · rw [← h]; exact Lib.hid (Q4.out.out HRz.out (.inr (Nat.le_refl _)))
          go_end0
          exact ⟨rfl, ys, ⟨HR.out.trans (HRz.out.mono (Nat.le_refl _) (by omega)), halves_join Q7.out HRz.out (Rch.refl _ _ _) HSz.out HSu.out⟩, HG.out.1, HG.out.2⟩
      by_cases g2 : s < m
      · have gi1 : (s : Int) < m := by omega
        have gi2 : ¬ (m : Int) < e := by omega
        have gi4 : ¬ (s : Int) < mid := by omega
        have gi5 : (mid : Int) < e := by omega
        have gi6 : (e : Int) < b := by omega
        by_cases g3 : a < s
        · have gi3 : (a : Int) < s := by omega
          go_wp2_with fail
          have HG := HG0
          have HR : Hid (Rch a b xs0 xs0) := Lib.hid (Rch.refl _ _ _)
          have HY : Hid (∀ p, xs0[p]? = RotT xs0 s m e p) := Lib.hid (rot_same (by omega) (by omega) (by omega))
          obtain ⟨q1, q2, q3, q4, q5, q6, q7⟩ := HH.out xs0 HY.out
          have Q1 := Lib.hid q1; have Q2 := Lib.hid q2; have Q3 := Lib.hid q3; have Q4 := Lib.hid q4; have Q5 := Lib.hid q5; have Q6 := Lib.hid q6; have Q7 := Lib.hid q7
          clear q1 q2 q3 q4 q5 q6 q7
          have HRz : Hid (Rch a mid xs0 xs0) := Lib.hid (Rch.refl _ _ _)
          have HSz : Hid (SrtB xs0 a mid) := by
            rcases (show a = s ∨ s = mid by omega) with h | h
            · rw [h]; exact Q2
            · rw [← h]; exact Q1
          refine (IH.out mid e b xs0 _ (by omega) (Lib.hid HG.out.1) (by omega) (by omega) (by omega) (by omega) (Lib.hid (Q4.out.out HRz.out (.inr (Nat.le_refl _)))) (Lib.hid (Q5.out.out HRz.out (.inr (by omega)))) (Lib.hid (HRz.out.ixx Q6.out (.inl (Nat.le_refl _))))).mono ?_
          rintro e1 w4 ⟨rfl, us, ⟨t1, t2⟩, t3, t4⟩
          have HGu := Lib.hid (HG.out.call t3 t4)
          have HRu := Lib.hid t1
          have HSu := Lib.hid t2
          clear t1 t2 t3 t4
          go_wp2_with fail
          go_end0
          exact ⟨rfl, us, ⟨(HR.out.trans (HRz.out.mono (Nat.le_refl _) (by omega))).trans (HRu.out.mono (by omega) (Nat.le_refl _)), halves_join Q7.out HRz.out HRu.out HSz.out HSu.out⟩, HGu.out.1, HGu.out.2⟩
        · have gi3 : ¬ (a : Int) < s := by omega
          go_wp2_with fail
          have HG := HG0
          have HR : Hid (Rch a b xs0 xs0) := Lib.hid (Rch.refl _ _ _)
          have HY : Hid (∀ p, xs0[p]? = RotT xs0 s m e p) := Lib.hid (rot_same (by omega) (by omega) (by omega))
          obtain ⟨q1, q2, q3, q4, q5, q6, q7⟩ := HH.out xs0 HY.out
          have Q1 := Lib.hid q1; have Q2 := Lib.hid q2; have Q3 := Lib.hid q3; have Q4 := Lib.hid q4; have Q5 := Lib.hid q5; have Q6 := Lib.hid q6; have Q7 := Lib.hid q7
          clear q1 q2 q3 q4 q5 q6 q7
          have HRz : Hid (Rch a mid xs0 xs0) := Lib.hid (Rch.refl _ _ _)
          have HSz : Hid (SrtB xs0 a mid) := by
            rcases (show a = s ∨ s = mid by omega) with h | h
            · rw [h]; exact Q2
            · rw [← h]; exact Q1
          refine (IH.out mid e b xs0 _ (by omega) (Lib.hid HG.out.1) (by omega) (by omega) (by omega) (by omega) (Lib.hid (Q4.out.out HRz.out (.inr (Nat.le_refl _)))) (Lib.hid (Q5.out.out HRz.out (.inr (by omega)))) (Lib.hid (HRz.out.ixx Q6.out (.inl (Nat.le_refl _))))).mono ?_
          rintro e1 w4 ⟨rfl, us, ⟨t1, t2⟩, t3, t4⟩
          have HGu := Lib.hid (HG.out.call t3 t4)
          have HRu := Lib.hid t1
          have HSu := Lib.hid t2
          clear t1 t2 t3 t4
          go_wp2_with fail
          go_end0
          exact ⟨rfl, us, ⟨(HR.out.trans (HRz.out.mono (Nat.le_refl _) (by omega))).trans (HRu.out.mono (by omega) (Nat.le_refl _)), halves_join Q7.out HRz.out HRu.out HSz.out HSu.out⟩, HGu.out.1, HGu.out.2⟩
      · have gi1 : ¬ (s : Int) < m := by omega
        have gi3 : (a : Int) < s := by omega
        have gi5 : ¬ (mid : Int) < e := by omega
        by_cases g3 : s < mid
        · have gi4 : (s : Int) < mid := by omega
          go_wp2_with fail
          have HG := HG0
          have HR : Hid (Rch a b xs0 xs0) := Lib.hid (Rch.refl _ _ _)
          have HY : Hid (∀ p, xs0[p]? = RotT xs0 s m e p) := Lib.hid (rot_same (by omega) (by omega) (by omega))
          obtain ⟨q1, q2, q3, q4, q5, q6, q7⟩ := HH.out xs0 HY.out
          have Q1 := Lib.hid q1; have Q2 := Lib.hid q2; have Q3 := Lib.hid q3; have Q4 := Lib.hid q4; have Q5 := Lib.hid q5; have Q6 := Lib.hid q6; have Q7 := Lib.hid q7
          clear q1 q2 q3 q4 q5 q6 q7
          refine (IH.out a s mid xs0 _ (by omega) (Lib.hid HG.out.1) (by omega) (by omega) (by omega) (by omega) Q1 Q2 Q3).mono ?_
          rintro e1 w3 ⟨rfl, zs, ⟨t1, t2⟩, t3, t4⟩
          have HGz := Lib.hid (HG.out.call t3 t4)
          have HRz := Lib.hid t1
          have HSz := Lib.hid t2
          have hzl := t1.len
          clear t1 t2 t3 t4
          go_wp2_with fail
          have HSu : Hid (SrtB zs mid b) := by
            rcases (show mid = e ∨ e = b by omega) with h | h
            · rw [h]; exact Lib.hid (Q5.out.out HRz.out (.inr (by omega)))
            · rw [← h]; exact Lib.hid (Q4.out.out HRz.out (.inr (Nat.le_refl _)))
          go_end0
          exact ⟨rfl, zs, ⟨HR.out.trans (HRz.out.mono (Nat.le_refl _) (by omega)), halves_join Q7.out HRz.out (Rch.refl _ _ _) HSz.out HSu.out⟩, HGz.out.1, HGz.out.2⟩
        · have gi4 : ¬ (s : Int) < mid := by omega
          go_wp2_with fail
          have HG := HG0
          have HR : Hid (Rch a b xs0 xs0) := Lib.hid (Rch.refl _ _ _)
          have HY : Hid (∀ p, xs0[p]? = RotT xs0 s m e p) := Lib.hid (rot_same (by omega) (by omega) (by omega))
          obtain ⟨q1, q2, q3, q4, q5, q6, q7⟩ := HH.out xs0 HY.out
          have Q1 := Lib.hid q1; have Q2 := Lib.hid q2; have Q3 := Lib.hid q3; have Q4 := Lib.hid q4; have Q5 := Lib.hid q5; have Q6 := Lib.hid q6; have Q7 := Lib.hid q7
          clear q1 q2 q3 q4 q5 q6 q7
          have HRz : Hid (Rch a mid xs0 xs0) := Lib.hid (Rch.refl _ _ _)
          have HSz : Hid (SrtB xs0 a mid) := by
            rcases (show a = s ∨ s = mid by omega) with h | h
            · rw [h]; exact Q2
            · rw [← h]; exact Q1
          have HSu : Hid (SrtB xs0 mid b) := by
            rcases (show mid = e ∨ e = b by omega) with h | h
            · rw [h]; exact Lib.hid (Q5.out.out HRz.out (.inr (by omega)))
            · rw [← h]; exact Lib.hid (Q4.out.out HRz.out (.inr (Nat.le_refl _)))
          go_end0
          exact ⟨rfl, xs0, ⟨HR.out.trans (HRz.out.mono (Nat.le_refl _) (by omega)), halves_join Q7.out HRz.out (Rch.refl _ _ _) HSz.out HSu.out⟩, HG.out.1, HG.out.2⟩
  · have hmm' : (mid : Int) < m := by omega
    obtain ⟨sb, hsb⟩ : ∃ p : Nat, mid + m - b = p := ⟨_, rfl⟩
    have es : (n0 : Int) - (b : Int) = (sb : Int) := by omega
    have HSB := Lib.hid hsb
    clear hsb
    go_enter Try.func65, Try.ntmps65
    go_wp2_with fail
    go_loopw [20, 21] (fun sv rv wr => ∃ s r : Nat, Hid (KGo W base g cap xs0 wr) ∧ sv = .int .i64 s ∧ rv = .int .i64 r ∧ sb ≤ s ∧ s ≤ r ∧ r ≤ mid ∧ Hid (B3 xs0 p0 (sb) (mid) s r)) (fun sv rv _ => (intOf rv).toNat - (intOf sv).toNat)
    case atStart => exact ⟨sb, mid, Lib.hid (KGo.start hK.out), rfl, rfl, Nat.le_refl _, by omega, Nat.le_refl _, Lib.hid (B3.start _ (by omega))⟩
    case round =>
    obtain ⟨s, r, HG0, rfl, rfl, hs1, hs2, hr2, HB⟩ := hrel
    by_cases hij : s < r
    · obtain ⟨h, h1, h2, h3, h4⟩ := half_nat s r hij (by omega)
      obtain ⟨x, hx⟩ := get_of_lt (xs := xs0) (i := h) (by omega)
      obtain ⟨ph, hph⟩ : ∃ p : Nat, p0 - h = p := ⟨_, rfl⟩
      obtain ⟨y, hy⟩ := get_of_lt (xs := xs0) (i := ph) (by omega)
      have eh : (p0 : Int) - (h : Int) = (ph : Int) := by omega
      have HPH := Lib.hid hph
      clear hph
      have hc1 := HG0.out.1.at_ hx
      have hc2 := HG0.out.1.at_ hy
      have HL := Lib.hid (HG0.out.1.less hy hx)
      have HX1 := Lib.hid hx
      have HY1 := Lib.hid hy
      have hb1 : h < xs0.length := by omega
      have hb2 : ph < xs0.length := by omega
      clear hy hx
      by_cases hk : y.key < x.key
      · have hcm := cmpI_lt hk
        have HB2 := Lib.hid (HB.out.down S1.out S2.out (by omega) (by omega) (by omega) (by omega) h1 h2 HX1.out (by rw [HPH.out]; exact HY1.out) hk)
        clear hk
        go_wp2_with (go_quiet ((go_at_call 44; exact HL.out _)))
        exact ⟨⟨s, h, Lib.hid (HG0.out.drewN _), rfl, rfl, by omega, by omega, by omega, HB2⟩, by simp [intOf]; omega⟩
      · have hcm := cmpI_nlt hk
        have HB2 := Lib.hid (HB.out.up S1.out S2.out (by omega) (by omega) (by omega) (by omega) h1 h2 HX1.out (by rw [HPH.out]; exact HY1.out) hk)
        clear hk
        go_wp2_with (go_quiet ((go_at_call 44; exact HL.out _)))
        exact ⟨⟨h + 1, r, Lib.hid (HG0.out.drewN _), by go_num, rfl, by omega, by omega, hr2, HB2⟩, by simp [intOf]; omega⟩
    · have hnij : ¬ ((s : Int) < r) := by omega
      obtain rfl : s = r := by omega
      have HC := Lib.hid (B3.cut (s0 := sb) (r0 := mid) S1.out S2.out hb ham hmb HMID.out (.inr ⟨by omega, HSB.out.symm, rfl⟩) (by rw [HP0.out]; exact HB.out))
      obtain ⟨c1, c2, c3, c4, c5, _, _⟩ := HC.out
      have HH := Lib.hid (fun ys hy => HC.out.halves (ys := ys) S1.out S2.out HX.out hy)
      obtain ⟨e, he⟩ : ∃ e, mid + m - s = e := ⟨_, rfl⟩
      have ee : (n0 : Int) - (s : Int) = (e : Int) := by omega
      rw [he] at HH c4 c5
      have HE0 := Lib.hid he
      clear he
      by_cases g1 : s < m ∧ m < e
      · have gi1 : (s : Int) < m := by omega
        have gi2 : (m : Int) < e := by omega
        have gi4 : (s : Int) < mid := by omega
        have gi5 : (mid : Int) < e := by omega
        by_cases g2 : a < s <;> by_cases g3 : e < b
        · have gi3 : (a : Int) < s := by omega
          have gi6 : (e : Int) < b := by omega
          go_wp2_with fail
          refine (rot_any base g cap s m e xs0 _ (Lib.hid HG0.out.1) (by omega) (by omega) (by omega) hn _).mono ?_
          rintro e1 w2 ⟨rfl, ys, ⟨r1, r2⟩, r3, r4⟩
          have HG := Lib.hid (HG0.out.call r3 r4)
          have HR := Lib.hid (r1.mono c1 c4)
          have HY := Lib.hid r2
          have hyl := r1.len
          clear r1 r2 r3 r4
          obtain ⟨q1, q2, q3, q4, q5, q6, q7⟩ := HH.out ys HY.out
          have Q1 := Lib.hid q1; have Q2 := Lib.hid q2; have Q3 := Lib.hid q3; have Q4 := Lib.hid q4; have Q5 := Lib.hid q5; have Q6 := Lib.hid q6; have Q7 := Lib.hid q7
          clear q1 q2 q3 q4 q5 q6 q7
          go_wp2_with fail
          rw [← hyl]
          refine (IH.out a s mid ys _ (by omega) (Lib.hid HG.out.1) (by omega) (by omega) (by omega) (by omega) Q1 Q2 Q3).mono ?_
          rintro e1 w3 ⟨rfl, zs, ⟨t1, t2⟩, t3, t4⟩
          have HGz := Lib.hid (HG.out.call t3 t4)
          have HRz := Lib.hid t1
          have HSz := Lib.hid t2
          have hzl := t1.len
          clear t1 t2 t3 t4
          rw [hyl]
          go_wp2_with fail
          rw [show xs0.length = zs.length by omega]
          refine (IH.out mid e b zs _ (by omega) (Lib.hid HGz.out.1) (by omega) (by omega) (by omega) (by omega) (Lib.hid (Q4.out.out HRz.out (.inr (Nat.le_refl _)))) (Lib.hid (Q5.out.out HRz.out (.inr (by omega)))) (Lib.hid (HRz.out.ixx Q6.out (.inl (Nat.le_refl _))))).mono ?_
          rintro e1 w4 ⟨rfl, us, ⟨t1, t2⟩, t3, t4⟩
          have HGu := Lib.hid (HGz.out.call t3 t4)
          have HRu := Lib.hid t1
          have HSu := Lib.hid t2
          clear t1 t2 t3 t4
          go_wp2_with fail
          go_end0
          exact ⟨rfl, us, ⟨(HR.out.trans (HRz.out.mono (Nat.le_refl _) (by omega))).trans (HRu.out.mono (by omega) (Nat.le_refl _)), halves_join Q7.out HRz.out HRu.out HSz.out HSu.out⟩, HGu.out.1, HGu.out.2⟩
        · have gi3 : (a : Int) < s := by omega
          have gi6 : ¬ (e : Int) < b := by omega
          go_wp2_with fail
          refine (rot_any base g cap s m e xs0 _ (Lib.hid HG0.out.1) (by omega) (by omega) (by omega) hn _).mono ?_
          rintro e1 w2 ⟨rfl, ys, ⟨r1, r2⟩, r3, r4⟩
          have HG := Lib.hid (HG0.out.call r3 r4)
          have HR := Lib.hid (r1.mono c1 c4)
          have HY := Lib.hid r2
          have hyl := r1.len
          clear r1 r2 r3 r4
          obtain ⟨q1, q2, q3, q4, q5, q6, q7⟩ := HH.out ys HY.out
          have Q1 := Lib.hid q1; have Q2 := Lib.hid q2; have Q3 := Lib.hid q3; have Q4 := Lib.hid q4; have Q5 := Lib.hid q5; have Q6 := Lib.hid q6; have Q7 := Lib.hid q7
          clear q1 q2 q3 q4 q5 q6 q7
          go_wp2_with fail
          rw [← hyl]
          refine (IH.out a s mid ys _ (by omega) (Lib.hid HG.out.1) (by omega) (by omega) (by omega) (by omega) Q1 Q2 Q3).mono ?_
          rintro e1 w3 ⟨rfl, zs, ⟨t1, t2⟩, t3, t4⟩
          have HGz := Lib.hid (HG.out.call t3 t4)
          have HRz := Lib.hid t1
          have HSz := Lib.hid t2
          have hzl := t1.len
          clear t1 t2 t3 t4
          rw [hyl]
          go_wp2_with fail
          have HSu : Hid (SrtB zs mid b) := by
            rcases (show mid = e ∨ e = b by omega) with h | h
            · rw [h]; exact Lib.hid (Q5.out.out HRz.out (.inr (by omega)))
            · rw [← h]; exact Lib.hid (Q4.out.out HRz.out (.inr (Nat.le_refl _)))
          go_end0
          exact ⟨rfl, zs, ⟨HR.out.trans (HRz.out.mono (Nat.le_refl _) (by omega)), halves_join Q7.out HRz.out (Rch.refl _ _ _) HSz.out HSu.out⟩, HGz.out.1, HGz.out.2⟩
        · have gi3 : ¬ (a : Int) < s := by omega
          have gi6 : (e : Int) < b := by omega
          go_wp2_with fail
          refine (rot_any base g cap s m e xs0 _ (Lib.hid HG0.out.1) (by omega) (by omega) (by omega) hn _).mono ?_
          rintro e1 w2 ⟨rfl, ys, ⟨r1, r2⟩, r3, r4⟩
          have HG := Lib.hid (HG0.out.call r3 r4)
          have HR := Lib.hid (r1.mono c1 c4)
          have HY := Lib.hid r2
          have hyl := r1.len
          clear r1 r2 r3 r4
          obtain ⟨q1, q2, q3, q4, q5, q6, q7⟩ := HH.out ys HY.out
          have Q1 := Lib.hid q1; have Q2 := Lib.hid q2; have Q3 := Lib.hid q3; have Q4 := Lib.hid q4; have Q5 := Lib.hid q5; have Q6 := Lib.hid q6; have Q7 := Lib.hid q7
          clear q1 q2 q3 q4 q5 q6 q7
          go_wp2_with fail
          have HRz : Hid (Rch a mid ys ys) := Lib.hid (Rch.refl _ _ _)
          have HSz : Hid (SrtB ys a mid) := by
            rcases (show a = s ∨ s = mid by omega) with h | h
            · rw [h]; exact Q2
            · rw [← h]; exact Q1
          rw [show xs0.length = ys.length by omega]
          refine (IH.out mid e b ys _ (by omega) (Lib.hid HG.out.1) (by omega) (by omega) (by omega) (by omega) (Lib.hid (Q4.out.out HRz.out (.inr (Nat.le_refl _)))) (Lib.hid (Q5.out.out HRz.out (.inr (by omega)))) (Lib.hid (HRz.out.ixx Q6.out (.inl (Nat.le_refl _))))).mono ?_
          rintro e1 w4 ⟨rfl, us, ⟨t1, t2⟩, t3, t4⟩
          have HGu := Lib.hid (HG.out.call t3 t4)
          have HRu := Lib.hid t1
          have HSu := Lib.hid t2
          clear t1 t2 t3 t4
          go_wp2_with fail
          go_end0
          exact ⟨rfl, us, ⟨(HR.out.trans (HRz.out.mono (Nat.le_refl _) (by omega))).trans (HRu.out.mono (by omega) (Nat.le_refl _)), halves_join Q7.out HRz.out HRu.out HSz.out HSu.out⟩, HGu.out.1, HGu.out.2⟩
        · have gi3 : ¬ (a : Int) < s := by omega
          have gi6 : ¬ (e : Int) < b := by omega
          go_wp2_with fail
          refine (rot_any base g cap s m e xs0 _ (Lib.hid HG0.out.1) (by omega) (by omega) (by omega) hn _).mono ?_
          rintro e1 w2 ⟨rfl, ys, ⟨r1, r2⟩, r3, r4⟩
          have HG := Lib.hid (HG0.out.call r3 r4)
          have HR := Lib.hid (r1.mono c1 c4)
          have HY := Lib.hid r2
          have hyl := r1.len
          clear r1 r2 r3 r4
          obtain ⟨q1, q2, q3, q4, q5, q6, q7⟩ := HH.out ys HY.out
          have Q1 := Lib.hid q1; have Q2 := Lib.hid q2; have Q3 := Lib.hid q3; have Q4 := Lib.hid q4; have Q5 := Lib.hid q5; have Q6 := Lib.hid q6; have Q7 := Lib.hid q7
          clear q1 q2 q3 q4 q5 q6 q7
          go_wp2_with fail
          have HRz : Hid (Rch a mid ys ys) := Lib.hid (Rch.refl _ _ _)
          have HSz : Hid (SrtB ys a mid) := by
            rcases (show a = s ∨ s = mid by omega) with h | h
            · rw [h]; exact Q2
            · rw [← h]; exact Q1
          have HSu : Hid (SrtB ys mid b) := by
            rcases (show mid = e ∨ e = b by omega) with h | h
            · rw [h]; exact Lib.hid (Q5.out.out HRz.out (.inr (by omega)))
            · rw [← h]; exact Lib.hid (Q4.out.out HRz.out (.inr (Nat.le_refl _)))
          go_end0
          exact ⟨rfl, ys, ⟨HR.out.trans (HRz.out.mono (Nat.le_refl _) (by omega)), halves_join Q7.out HRz.out (Rch.refl _ _ _) HSz.out HSu.out⟩, HG.out.1, HG.out.2⟩
      by_cases g2 : s < m
      · have gi1 : (s : Int) < m := by omega
        have gi2 : ¬ (m : Int) < e := by omega
        have gi4 : ¬ (s : Int) < mid := by omega
        have gi5 : (mid : Int) < e := by omega
        have gi6 : (e : Int) < b := by omega
        by_cases g3 : a < s
        · have gi3 : (a : Int) < s := by omega
          go_wp2_with fail
          have HG := HG0
          have HR : Hid (Rch a b xs0 xs0) := Lib.hid (Rch.refl _ _ _)
          have HY : Hid (∀ p, xs0[p]? = RotT xs0 s m e p) := Lib.hid (rot_same (by omega) (by omega) (by omega))
          obtain ⟨q1, q2, q3, q4, q5, q6, q7⟩ := HH.out xs0 HY.out
          have Q1 := Lib.hid q1; have Q2 := Lib.hid q2; have Q3 := Lib.hid q3; have Q4 := Lib.hid q4; have Q5 := Lib.hid q5; have Q6 := Lib.hid q6; have Q7 := Lib.hid q7
          clear q1 q2 q3 q4 q5 q6 q7
          have HRz : Hid (Rch a mid xs0 xs0) := Lib.hid (Rch.refl _ _ _)
          have HSz : Hid (SrtB xs0 a mid) := by
            rcases (show a = s ∨ s = mid by omega) with h | h
            · rw [h]; exact Q2
            · rw [← h]; exact Q1
          refine (IH.out mid e b xs0 _ (by omega) (Lib.hid HG.out.1) (by omega) (by omega) (by omega) (by omega) (Lib.hid (Q4.out.out HRz.out (.inr (Nat.le_refl _)))) (Lib.hid (Q5.out.out HRz.out (.inr (by omega)))) (Lib.hid (HRz.out.ixx Q6.out (.inl (Nat.le_refl _))))).mono ?_
          rintro e1 w4 ⟨rfl, us, ⟨t1, t2⟩, t3, t4⟩
          have HGu := Lib.hid (HG.out.call t3 t4)
          have HRu := Lib.hid t1
          have HSu := Lib.hid t2
          clear t1 t2 t3 t4
          go_wp2_with fail
          go_end0
          exact ⟨rfl, us, ⟨(HR.out.trans (HRz.out.mono (Nat.le_refl _) (by omega))).trans (HRu.out.mono (by omega) (Nat.le_refl _)), halves_join Q7.out HRz.out HRu.out HSz.out HSu.out⟩, HGu.out.1, HGu.out.2⟩
        · have gi3 : ¬ (a : Int) < s := by omega
          go_wp2_with fail
          have HG := HG0
          have HR : Hid (Rch a b xs0 xs0) := Lib.hid (Rch.refl _ _ _)
          have HY : Hid (∀ p, xs0[p]? = RotT xs0 s m e p) := Lib.hid (rot_same (by omega) (by omega) (by omega))
          obtain ⟨q1, q2, q3, q4, q5, q6, q7⟩ := HH.out xs0 HY.out
          have Q1 := Lib.hid q1; have Q2 := Lib.hid q2; have Q3 := Lib.hid q3; have Q4 := Lib.hid q4; have Q5 := Lib.hid q5; have Q6 := Lib.hid q6; have Q7 := Lib.hid q7
          clear q1 q2 q3 q4 q5 q6 q7
          have HRz : Hid (Rch a mid xs0 xs0) := Lib.hid (Rch.refl _ _ _)
          have HSz : Hid (SrtB xs0 a mid) := by
            rcases (show a = s ∨ s = mid by omega) with h | h
            · rw [h]; exact Q2
            · rw [← h]; exact Q1
          refine (IH.out mid e b xs0 _ (by omega) (Lib.hid HG.out.1) (by omega) (by omega) (by omega) (by omega) (Lib.hid (Q4.out.out HRz.out (.inr (Nat.le_refl _)))) (Lib.hid (Q5.out.out HRz.out (.inr (by omega)))) (Lib.hid (HRz.out.ixx Q6.out (.inl (Nat.le_refl _))))).mono ?_
          rintro e1 w4 ⟨rfl, us, ⟨t1, t2⟩, t3, t4⟩
          have HGu := Lib.hid (HG.out.call t3 t4)
          have HRu := Lib.hid t1
          have HSu := Lib.hid t2
          clear t1 t2 t3 t4
          go_wp2_with fail
          go_end0
          exact ⟨rfl, us, ⟨(HR.out.trans (HRz.out.mono (Nat.le_refl _) (by omega))).trans (HRu.out.mono (by omega) (Nat.le_refl _)), halves_join Q7.out HRz.out HRu.out HSz.out HSu.out⟩, HGu.out.1, HGu.out.2⟩
      · exfalso; omega
end Go.Proofs.Ytlmkokeapbleoaa
end
section
namespace Go.Proofs.Ytlmkokeapbleoaa
open Go.RowKit
theorem IxB.cross {xs : List KV} {n p : Nat} (h : IxB xs 0 n) : IxX xs 0 p n := fun i j x y h1 h2 h3 h4 e1 e2 => h i j x y h1 (by omega) h4 e1 e2
theorem IxX.moved {xs ys : List KV} {a b p n : Nat} (h : IxX xs 0 p n) (hr : Rch a b xs ys) (hp : p ≤ a ∨ b ≤ p) (hb : b ≤ n) (hn : n ≤ xs.length) : IxX ys 0 p n := by
  intro i j x y h1 h2 h3 h4 e1 e2
  have fr : ∀ q z, ys[q]? = some z → q < n → ∃ q', (q < p ↔ q' < p) ∧ q' < n ∧ xs[q']? = some z := by
    intro q z hz hq
    by_cases hab : a ≤ q ∧ q < b
    · obtain ⟨q', g1, g2, g3, g4⟩ := hr.from_ q hab.1 hab.2 (by omega)
      exact ⟨q', by omega, by omega, by rw [← g4]; exact hz⟩
    · exact ⟨q, Iff.rfl, hq, by rw [← hr.out q (by omega)]; exact hz⟩
  obtain ⟨i', a1, a2, a3⟩ := fr i x e1 (by omega)
  obtain ⟨j', b1, b2, b3⟩ := fr j y e2 h4
  exact h i' j' x y (Nat.zero_le _) (by omega) (by omega) b2 a3 b3
def J1 (xs0 xs : List KV) (n a : Nat) : Prop := Rch 0 n xs0 xs ∧ 20 ∣ a ∧ a ≤ n ∧ (∀ p, 20 ∣ p → p < a → SrtB xs p (p + 20)) ∧ (∀ j, a ≤ j → xs[j]? = xs0[j]?) ∧ (∀ p, 20 ∣ p → IxX xs 0 p n)
def J2 (xs0 xs : List KV) (n k : Nat) : Prop := Rch 0 n xs0 xs ∧ (∀ p, k ∣ p → p < n → SrtB xs p (min (p + k) n)) ∧ (∀ p, k ∣ p → IxX xs 0 p n)
def J3 (xs0 xs : List KV) (n k a : Nat) : Prop := Rch 0 n xs0 xs ∧ 2 * k ∣ a ∧ a ≤ n ∧ (∀ p, 2 * k ∣ p → p < a → SrtB xs p (p + 2 * k)) ∧ (∀ p, k ∣ p → a ≤ p → p < n → SrtB xs p (min (p + k) n)) ∧ (∀ p, 2 * k ∣ p → IxX xs 0 p n) ∧ (∀ p, k ∣ p → a ≤ p → IxX xs 0 p n)
theorem J1.start {xs0 : List KV} {n : Nat} (h : IxB xs0 0 n) : J1 xs0 xs0 n 0 := ⟨Rch.refl _ _ _, ⟨0, rfl⟩, Nat.zero_le _, fun p _ hp => by omega, fun _ _ => rfl, fun p _ => h.cross⟩
theorem J1.ix {xs0 xs : List KV} {n a b : Nat} (h0 : IxB xs0 0 n) (h : J1 xs0 xs n a) (hb : b ≤ n) : IxB xs a b := by
  obtain ⟨_, _, _, _, h4, _⟩ := h
  intro i j x y h1 h2 h3 e1 e2
  rw [h4 i h1] at e1
  rw [h4 j (by omega)] at e2
  exact h0 i j x y (Nat.zero_le _) h2 (by omega) e1 e2
theorem dvd_next {k p a : Nat} (h : k ∣ p) (h' : k ∣ a) (hp : a < p) : a + k ≤ p := by
  obtain ⟨c, rfl⟩ := h
  obtain ⟨d, rfl⟩ := h'
  have h1 : d < c := Nat.lt_of_mul_lt_mul_left hp
  have := Nat.mul_le_mul_left k (show d + 1 ≤ c from h1)
  rw [Nat.mul_add, Nat.mul_one] at this
  exact this
theorem J1.next {xs0 xs ys : List KV} {n a : Nat} (h : J1 xs0 xs n a) (hb : a + 20 ≤ n) (hn : n ≤ xs.length) (hr : Rch a (a + 20) xs ys) (hs : SrtB ys a (a + 20)) : J1 xs0 ys n (a + 20) := by
  obtain ⟨h0, h1, h2, h3, h4, h5⟩ := h
  refine ⟨h0.trans (hr.mono (Nat.zero_le _) hb), by omega, hb, fun p hp hlt => ?_, fun j hj => (hr.out j (.inr hj)).trans (h4 j (by omega)), fun p hp => (h5 p hp).moved hr ?_ hb hn⟩
  · by_cases e : p = a
    · subst e; exact hs
    · exact (h3 p hp (by omega)).out hr (.inl (by omega))
  · by_cases e : p ≤ a
    · exact .inl e
    · exact .inr (dvd_next hp h1 (by omega))
theorem J1.done {xs0 xs ys : List KV} {n a : Nat} (h : J1 xs0 xs n a) (hb : n < a + 20) (hn : n ≤ xs.length) (hr : Rch a n xs ys) (hs : SrtB ys a n) : J2 xs0 ys n 20 := by
  obtain ⟨h0, h1, h2, h3, h4, h5⟩ := h
  refine ⟨h0.trans (hr.mono (Nat.zero_le _) (Nat.le_refl _)), fun p hp hlt => ?_, fun p hp => ?_⟩
  · by_cases e : p = a
    · subst e; rw [Nat.min_eq_right (by omega)]; exact hs
    · have : p < a := by omega
      rw [Nat.min_eq_left (by omega)]
      exact (h3 p hp this).out hr (.inl (by omega))
  · by_cases e : p ≤ a
    · exact (h5 p hp).moved hr (.inl e) (Nat.le_refl _) hn
    · have := dvd_next hp h1 (by omega)
      exact (h5 p hp).moved hr (.inr (by omega)) (Nat.le_refl _) hn
theorem J2.go {xs0 xs : List KV} {n k : Nat} (h : J2 xs0 xs n k) : J3 xs0 xs n k 0 := by
  obtain ⟨h0, h1, h2⟩ := h
  exact ⟨h0, ⟨0, rfl⟩, Nat.zero_le _, fun p _ hp => by omega, fun p hp _ hlt => h1 p hp hlt, fun p hp => h2 p (Nat.dvd_trans ⟨2, by omega⟩ hp), fun p hp _ => h2 p hp⟩
theorem J3.two {xs0 xs : List KV} {n k a b : Nat} (hk : 1 ≤ k) (h : J3 xs0 xs n k a) (hm : a + k < b) (hb : b ≤ n) (hb2 : b ≤ a + 2 * k) : SrtB xs a (a + k) ∧ SrtB xs (a + k) b ∧ IxX xs a (a + k) b := by
  obtain ⟨h0, h1, h2, h3, h4, h5, h6⟩ := h
  have d1 : k ∣ a := Nat.dvd_trans ⟨2, by omega⟩ h1
  have d2 : k ∣ a + k := (Nat.dvd_add_right d1).2 (Nat.dvd_refl k)
  have s1 := h4 a d1 (Nat.le_refl _) (by omega)
  have s2 := h4 (a + k) d2 (by omega) (by omega)
  have x1 := h6 (a + k) d2 (by omega)
  rw [Nat.min_eq_left (by omega)] at s1
  refine ⟨s1, fun i j x y g1 g2 g3 => s2 i j x y g1 g2 (by omega), fun i j x y g1 g2 g3 g4 => x1 i j x y (Nat.zero_le _) g2 g3 (by omega)⟩
theorem J3.next {xs0 xs ys : List KV} {n k a : Nat} (hk : 1 ≤ k) (h : J3 xs0 xs n k a) (hb : a + 2 * k ≤ n) (hn : n ≤ xs.length) (hr : Rch a (a + 2 * k) xs ys) (hs : SrtB ys a (a + 2 * k)) : J3 xs0 ys n k (a + 2 * k) := by
  obtain ⟨h0, h1, h2, h3, h4, h5, h6⟩ := h
  refine ⟨h0.trans (hr.mono (Nat.zero_le _) hb), (Nat.dvd_add_right h1).2 (Nat.dvd_refl _), hb, fun p hp hlt => ?_, fun p hp hge hlt => (h4 p hp (by omega) hlt).out hr (.inr hge), fun p hp => (h5 p hp).moved hr ?_ hb hn, fun p hp hge => (h6 p hp (by omega)).moved hr (.inr hge) hb hn⟩
  · by_cases e : p = a
    · subst e; exact hs
    · by_cases e2 : p < a
      · exact (h3 p hp e2).out hr (.inl (dvd_next h1 hp e2))
      · have := dvd_next hp h1 (by omega)
        omega
  · by_cases e : p ≤ a
    · exact .inl e
    · exact .inr (dvd_next hp h1 (by omega))
theorem J3.done {xs0 xs ys : List KV} {n k a : Nat} (hk : 1 ≤ k) (h : J3 xs0 xs n k a) (hb : n < a + 2 * k) (hn : n ≤ xs.length) (hr : Rch a n xs ys) (hs : SrtB ys a n) : J2 xs0 ys n (2 * k) := by
  obtain ⟨h0, h1, h2, h3, h4, h5, h6⟩ := h
  refine ⟨h0.trans (hr.mono (Nat.zero_le _) (Nat.le_refl _)), fun p hp hlt => ?_, fun p hp => ?_⟩
  · by_cases e : p = a
    · subst e; rw [Nat.min_eq_right (by omega)]; exact hs
    · by_cases e2 : p < a
      · have := dvd_next h1 hp e2
        rw [Nat.min_eq_left (by omega)]
        exact (h3 p hp e2).out hr (.inl this)
      · have := dvd_next hp h1 (by omega)
        omega
  · by_cases e : p ≤ a
    · exact (h5 p hp).moved hr (.inl e) (Nat.le_refl _) hn
    · have := dvd_next hp h1 (by omega)
      exact (h5 p hp).moved hr (.inr (by omega)) (Nat.le_refl _) hn
theorem J3.short {xs0 xs : List KV} {n k a : Nat} (hk : 1 ≤ k) (h : J3 xs0 xs n k a) (hb : n ≤ a + k) : SrtB xs a n := by
  obtain ⟨h0, h1, h2, h3, h4, h5, h6⟩ := h
  by_cases e : a < n
  · have := h4 a (Nat.dvd_trans ⟨2, by omega⟩ h1) (Nat.le_refl _) e
    rwa [Nat.min_eq_right hb] at this
  · intro i j x y g1 g2 g3; omega
theorem J2.end_ {xs0 xs : List KV} {n k : Nat} (h : J2 xs0 xs n k) (hk : n ≤ k) : SrtB xs 0 n := by
  obtain ⟨h0, h1, h2⟩ := h
  by_cases e : 0 < n
  · have := h1 0 ⟨0, rfl⟩ e
    rwa [Nat.min_eq_right (by omega)] at this
  · intro i j x y g1 g2 g3; omega
theorem stable_any (base g cap : Nat) (xs0 : List KV) (W : World) (hK : Hid (KSt W base g cap xs0)) (hix : Hid (IxB xs0 0 xs0.length)) (hn : xs0.length < 1099511627776) :
    Calls Try.prog 51 #[.slice (some ⟨g, 0, none⟩) xs0.length cap, .int .i64 xs0.length, .func (.func 44) #[] #[]] W (KEnd W base g cap fun ys => ys.Perm xs0 ∧ SrtB ys 0 ys.length) := by
  obtain ⟨n, hnn⟩ : ∃ n, xs0.length = n := ⟨_, rfl⟩
  have HN := Lib.hid hnn
  rw [hnn] at hix hn ⊢
  clear hnn
  go_enter Try.func51, Try.ntmps51
  go_wp2_with fail
  go_loopw [7, 8] (fun av bv wr => ∃ (a : Nat) (xs : List KV), av = .int .i64 a ∧ bv = .int .i64 ((a : Int) + 20) ∧ a ≤ n ∧ Hid (J1 xs0 xs n a) ∧ Hid (KGo W base g cap xs wr)) (fun av _ _ => n - (intOf av).toNat)
  case atStart => exact ⟨0, xs0, rfl, rfl, Nat.zero_le _, Lib.hid (J1.start hix.out), Lib.hid (KGo.start hK.out)⟩
  case round =>
  obtain ⟨a, xs, rfl, rfl, han, HJ, HG⟩ := hrel
  have HL : Hid (xs.length = n) := Lib.hid (HJ.out.1.len.trans HN.out)
  by_cases hb : a + 20 ≤ n
  · have hb' : (a : Int) + 20 ≤ n := by omega
    obtain ⟨b, hbe⟩ : ∃ b : Nat, a + 20 = b := ⟨_, rfl⟩
    have hbi : (a : Int) + 20 = (b : Int) := by omega
    have HBE := Lib.hid hbe
    have hbn : b ≤ n := by omega
    clear hbe
    go_wp2_with fail
    rw [← HL.out]
    refine (ins_any base g cap a b xs _ (Lib.hid HG.out.1) (Lib.hid (HJ.out.ix hix.out hbn)) (by rw [HL.out]; exact hbn) (by omega) (by rw [HL.out]; exact hn)).mono ?_
    rintro e w1 ⟨rfl, ys, ⟨r1, r2⟩, r3, r4⟩
    have HG2 := Lib.hid (HG.out.call r3 r4)
    have HJ2 : Hid (J1 xs0 ys n b) := by
      unfold Hid
      rw [← HBE.out] at r1 r2 hbn ⊢
      exact HJ.out.next hbn (by rw [HL.out]; exact Nat.le_refl _) r1 r2
    clear r1 r2 r3 r4
    rw [HL.out]
    go_wp2_with fail
    exact ⟨⟨b, ys, rfl, rfl, hbn, HJ2, HG2⟩, by simp [intOf]; omega⟩
  · have hb' : ¬ (a : Int) + 20 ≤ n := by omega
    go_wp2_with fail
    rw [← HL.out]
    refine (ins_any base g cap a xs.length xs _ (Lib.hid HG.out.1) (Lib.hid (HJ.out.ix hix.out (by rw [HL.out]; exact Nat.le_refl _))) (Nat.le_refl _) (by rw [HL.out]; exact han) (by rw [HL.out]; exact hn)).mono ?_
    rintro e w1 ⟨rfl, ys, ⟨r1, r2⟩, r3, r4⟩
    have HG2 := Lib.hid (HG.out.call r3 r4)
    have HJ2 : Hid (J2 xs0 ys n 20) := by
      rw [HL.out] at r1 r2
      exact Lib.hid (HJ.out.done (by omega) (by rw [HL.out]; exact Nat.le_refl _) r1 r2)
    clear r1 r2 r3 r4
    rw [HL.out]
    go_wp2_with fail
    go_loopw [6] (fun kv wr => ∃ (k : Nat) (xs : List KV), kv = .int .i64 k ∧ 1 ≤ k ∧ k < 2199023255552 ∧ Hid (J2 xs0 xs n k) ∧ Hid (KGo W base g cap xs wr)) (fun kv _ => 2 * n + 20 - (intOf kv).toNat)
    case atStart => exact ⟨20, ys, rfl, by omega, by omega, HJ2, HG2⟩
    case round =>
    obtain ⟨k, xs, rfl, hk1, hk2, HJ, HG⟩ := hrel
    by_cases hkn : k < n
    · obtain ⟨kk, hkk⟩ : ∃ kk : Nat, 2 * k = kk := ⟨_, rfl⟩
      have hkki : 2 * (k : Int) = (kk : Int) := by omega
      have hkki2 : (k : Int) * 2 = (kk : Int) := by omega
      have HKK := Lib.hid hkk
      clear hkk
      go_wp2_with fail
      go_loopw [7, 8] (fun av bv wr => ∃ (a : Nat) (xs : List KV), av = .int .i64 a ∧ bv = .int .i64 ((a : Int) + (kk : Int)) ∧ a ≤ n ∧ Hid (J3 xs0 xs n k a) ∧ Hid (KGo W base g cap xs wr)) (fun av _ _ => n - (intOf av).toNat)
      case atStart => exact ⟨0, xs, rfl, by go_num, Nat.zero_le _, Lib.hid HJ.out.go, HG⟩
      case round =>
      obtain ⟨a, ys, rfl, rfl, han, HA, HG⟩ := hrel
      have HL : Hid (ys.length = n) := Lib.hid (HA.out.1.len.trans HN.out)
      obtain ⟨m, hm⟩ : ∃ m : Nat, a + k = m := ⟨_, rfl⟩
      have hmi : (a : Int) + (k : Int) = (m : Int) := by omega
      have HM := Lib.hid hm
      obtain ⟨b, hbe⟩ : ∃ b : Nat, a + kk = b := ⟨_, rfl⟩
      have hbi : (a : Int) + (kk : Int) = (b : Int) := by omega
      have HBE : Hid (a + 2 * k = b) := by unfold Hid; rw [HKK.out]; exact hbe
      clear hm hbe
      by_cases hb : b ≤ n
      · have hb' : (b : Int) ≤ n := by omega
        obtain ⟨t1, t2, t3⟩ := HA.out.two hk1 (b := b) (by omega) hb (by omega)
        rw [HM.out] at t1 t2 t3
        have T1 := Lib.hid t1
        have T2 := Lib.hid t2
        have T3 := Lib.hid t3
        clear t1 t2 t3
        go_wp2_with fail
        rw [← HL.out]
        refine (sym_any base g cap (b - a) a m b ys _ (Nat.le_refl _) (Lib.hid HG.out.1) (by omega) (by omega) (by rw [HL.out]; exact hb) (by rw [HL.out]; exact hn) T1 T2 T3).mono ?_
        rintro e w1 ⟨rfl, zs, ⟨r1, r2⟩, r3, r4⟩
        have HG2 := Lib.hid (HG.out.call r3 r4)
        have HJ2 : Hid (J3 xs0 zs n k b) := by
          unfold Hid
          rw [← HBE.out] at r1 r2 hb ⊢
          exact HA.out.next hk1 hb (by rw [HL.out]; exact Nat.le_refl _) r1 r2
        clear r1 r2 r3 r4
        rw [HL.out]
        go_wp2_with fail
        exact ⟨⟨b, zs, rfl, by go_num, hb, HJ2, HG2⟩, by simp [intOf]; omega⟩
      · have hb' : ¬ (b : Int) ≤ n := by omega
        by_cases hmn : m < n
        · have hmn' : (m : Int) < n := by omega
          obtain ⟨t1, t2, t3⟩ := HA.out.two hk1 (b := n) (by omega) (Nat.le_refl _) (by omega)
          rw [HM.out] at t1 t2 t3
          have T1 := Lib.hid t1
          have T2 := Lib.hid t2
          have T3 := Lib.hid t3
          clear t1 t2 t3
          go_wp2_with fail
          have HLI : Hid ((n : Int) = (ys.length : Int)) := by unfold Hid; rw [HL.out]
          rw [← HL.out]
          refine (sym_any base g cap (ys.length - a) a m ys.length ys _ (Nat.le_refl _) (Lib.hid HG.out.1) (by omega) (by rw [HL.out]; exact hmn) (Nat.le_refl _) (by rw [HL.out]; exact hn) T1 (by rw [HL.out]; exact T2) (by rw [HL.out]; exact T3)).mono ?_
          rintro e w1 ⟨rfl, zs, ⟨r1, r2⟩, r3, r4⟩
          have HG2 := Lib.hid (HG.out.call r3 r4)
          rw [HL.out] at r1 r2
          have HJ2 := Lib.hid (HA.out.done hk1 (by omega) (by rw [HL.out]; exact Nat.le_refl _) r1 r2)
          rw [HKK.out] at HJ2
          clear r1 r2 r3 r4
          rw [HL.out]
          go_wp2_with fail
          exact ⟨⟨kk, zs, rfl, by omega, by omega, HJ2, HG2⟩, by simp [intOf]; omega⟩
        · have hmn' : ¬ (m : Int) < n := by omega
          have HJ2 := Lib.hid (HA.out.done hk1 (by omega) (by rw [HL.out]; exact Nat.le_refl _) (Rch.refl _ _ _) (HA.out.short hk1 (by omega)))
          rw [HKK.out] at HJ2
          go_wp2_with fail
          exact ⟨⟨kk, ys, rfl, by omega, by omega, HJ2, HG⟩, by simp [intOf]; omega⟩
    · have hkn' : ¬ (k : Int) < n := by omega
      go_wp2_with fail
      go_end0
      refine ⟨rfl, xs, ⟨HJ.out.1.perm, ?_⟩, HG.out.1, HG.out.2⟩
      have e : xs.length = n := HJ.out.1.len.trans HN.out
      rw [e]; exact HJ.out.end_ (by omega)
theorem sortStable_any (base g cap : Nat) (xs0 : List KV) (W : World) (hK : Hid (KSt W base g cap xs0)) (hix : Hid (IxB xs0 0 xs0.length)) (hn : xs0.length < 1099511627776) :
    Calls Try.prog 43 #[.slice (some ⟨g, 0, none⟩) xs0.length cap, .func (.func 44) #[] #[]] W (KEnd W base g cap fun ys => ys.Perm xs0 ∧ SrtB ys 0 ys.length) := by
  go_enter Try.func43, Try.ntmps43
  go_wp2_with fail
  refine (stable_any base g cap xs0 W hK hix hn).mono ?_
  rintro e w1 ⟨rfl, ys, r1, r2, r3⟩
  go_wp2_with fail
  go_end0
  exact ⟨rfl, ys, r1, r2, r3⟩
end Go.Proofs.Ytlmkokeapbleoaa
end
section
namespace Go.Proofs.Ytlmkokeapbleoaa
open Go.RowKit
noncomputable def meetM (a b : List Sp) : List Sp := Classical.choose (rep_meet a b)
noncomputable def minusL (a b : List Sp) : List Sp := Classical.choose (rep_minus a b)
theorem meetL_rep (a b : List Sp) : Hid (Rep (meetM a b) (fun x => Mem a x ∧ Mem b x)) := Classical.choose_spec (rep_meet a b)
theorem minusL_rep (a b : List Sp) : Hid (Rep (minusL a b) (fun x => Mem a x ∧ ¬ Mem b x)) := Classical.choose_spec (rep_minus a b)
def addL (P : List (List Sp)) (x : List Sp) : List (List Sp) := if x = [] then P else P ++ [x]
noncomputable def parts (s : List Sp) : List (List Sp) → List (List Sp) → List (List Sp)
  | P, [] => P
  | P, b :: L => parts s (addL (addL P (meetM b s)) (minusL b s)) L
theorem addL_len (P : List (List Sp)) (x : List Sp) : P.length ≤ (addL P x).length := by unfold addL; split <;> simp
theorem parts_len (s : List Sp) (L P : List (List Sp)) : P.length ≤ (parts s P L).length := by
  induction L generalizing P with
  | nil => exact Nat.le_refl _
  | cons b L ih => exact Nat.le_trans (Nat.le_trans (addL_len _ _) (addL_len _ _)) (ih _)
theorem parts_append (s : List Sp) (L M P : List (List Sp)) : parts s P (L ++ M) = parts s (parts s P L) M := by
  induction L generalizing P with
  | nil => rfl
  | cons b L ih => exact ih _
theorem parts_next {s : List Sp} {L : List (List Sp)} {k : Nat} {b : List Sp} (h : L[k]? = some b) : parts s [] (L.take (k + 1)) = addL (addL (parts s [] (L.take k)) (meetM b s)) (minusL b s) := by
  rw [take_snoc? h, parts_append]; rfl
def keyS (l : List Sp) : Int := (l.headD (0, 0)).1
def StabRel (P Q : List (List Sp)) : Prop := ∃ ix : List Nat, ix.Perm (List.range P.length) ∧ Q = ix.map (fun i => P[i]!) ∧ ix.Pairwise (fun i j => keyS P[i]! < keyS P[j]! ∨ (keyS P[i]! = keyS P[j]! ∧ i < j))
theorem perm_sorted_unique {r : Nat → Nat → Prop} (ht : ∀ i j, r i j → ¬ r j i) {a b : List Nat} (hp : a.Perm b) (h1 : a.Pairwise r) (h2 : b.Pairwise r) : a = b := by
  induction a generalizing b with
  | nil => exact (List.perm_nil.1 hp.symm).symm
  | cons x a ih =>
    cases b with
    | nil => exact absurd hp.length_eq (by simp)
    | cons y b =>
      have e : x = y := by
        have m1 : x ∈ y :: b := hp.mem_iff.1 (by simp)
        have m2 : y ∈ x :: a := hp.mem_iff.2 (by simp)
        rcases List.mem_cons.1 m1 with e | m1
        · exact e
        · rcases List.mem_cons.1 m2 with e | m2
          · exact e.symm
          · exact absurd ((List.pairwise_cons.1 h1).1 y m2) (ht _ _ ((List.pairwise_cons.1 h2).1 x m1))
      subst e
      rw [ih (List.perm_cons x |>.1 hp) (List.pairwise_cons.1 h1).2 (List.pairwise_cons.1 h2).2]
theorem StabRel.unique {P Q R : List (List Sp)} (h : StabRel P Q) (k : StabRel P R) : Q = R := by
  obtain ⟨a, a1, rfl, a3⟩ := h
  obtain ⟨b, b1, rfl, b3⟩ := k
  rw [perm_sorted_unique (fun i j h1 h2 => by omega) (a1.trans b1.symm) a3 b3]
theorem StabRel.mem {P Q : List (List Sp)} (h : StabRel P Q) (x : List Sp) : x ∈ Q ↔ x ∈ P := by
  obtain ⟨a, a1, rfl, a3⟩ := h
  rw [List.mem_map]
  constructor
  · rintro ⟨i, hi, rfl⟩
    have hi' := List.mem_range.1 (a1.mem_iff.1 hi)
    rw [getElem!_pos P i hi']; exact List.getElem_mem _
  · intro hx
    obtain ⟨i, hi, rfl⟩ := List.getElem_of_mem hx
    exact ⟨i, a1.mem_iff.2 (List.mem_range.2 hi), getElem!_pos P i hi⟩
theorem StabRel.len {P Q : List (List Sp)} (h : StabRel P Q) : Q.length = P.length := by
  obtain ⟨a, a1, rfl, a3⟩ := h
  rw [List.length_map, a1.length_eq, List.length_range]
theorem StabRel.nil_ : StabRel [] [] := ⟨[], List.Perm.refl _, rfl, List.Pairwise.nil⟩
structure LRow (W : World) (base : Nat) (A : Option Addr) (c : Nat) (O : List (Item Sp)) : Prop where
  row : W.ownsRow base 36 1 (.slice A O.length c) O.length (icells O)
  it : ∀ i ∈ O, Lst i.1 i.2.2 W ∧ i.2.2 ≠ [] ∧ ∃ b off, i.1 = some ⟨b, off, none⟩ ∧ some b ≠ Value.ownBlock (.slice A O.length c)
  nil : O = [] → A = none ∧ c = 0
theorem LRow.start (W : World) (base : Nat) : LRow W base none 0 [] := ⟨World.ownsRow_nil _ _ _ _, fun i hi => (by cases hi), fun _ => ⟨rfl, rfl⟩⟩
theorem own_below {W w : World} {base : Nat} {e : TypeId} {size : Nat} {v : Value} {n : Nat} {xs : List Value} (h : W.ownsRow base e size v n xs) (hb : Below W.heap.size W w) : w.ownsRow base e size v n xs := by
  refine ⟨h.1, ?_⟩
  rcases h.2 with h | ⟨g, cap, cur, e, hg1, hg2, hg3⟩
  · exact .inl h
  · exact .inr ⟨g, cap, cur, e, hg1, (hb.block g (Array.getElem?_eq_some_iff.1 hg2).1).trans hg2, hg3⟩
theorem LRow.below {W w : World} {base : Nat} {A : Option Addr} {c : Nat} {O : List (Item Sp)} (h : LRow W base A c O) (hb : Below W.heap.size W w) : LRow w base A c O :=
  ⟨own_below h.row hb, fun i hi => ⟨(h.it i hi).1.below hb, (h.it i hi).2⟩, h.nil⟩
theorem Lst.grown {A : Option Addr} {l : List Sp} {w w' : World} {r : Option Nat} (h : Lst A l w) (hg : w.grownBy w' r) {b off : Nat} (hA : A = some ⟨b, off, none⟩) (hb : some b ≠ r) : Lst A l w' := by
  refine ⟨⟨h.sp.1, fun hn => ?_⟩, h.wd, h.len⟩
  obtain ⟨b', off', e, hc⟩ := h.sp.2 hn
  rw [hA] at e
  injection e with e
  injection e with e1 e2 e3
  subst e1; subst e2
  exact ⟨b, off, hA, fun j u hu => hg.cell (hc j u hu) hb⟩
theorem infoHd : (Try.prog.info? 36).map (fun i => (i.zero, i.size, i.bytes)) = some (some (.slice none 0 0), 1, 24) := by kernel_rfl
theorem LRow.pushed {W W' : World} {base : Nat} {A A' : Option Addr} {c c' : Nat} {O : List (Item Sp)} {x : List Sp} {B : Nat} {off cx : Nat} {ob : Obj} (h : LRow W base A c O) (hx : Lst (some ⟨B, off, none⟩) x W) (hx0 : x ≠ []) (hB : some B ≠ Value.ownBlock (.slice A O.length c))
    (ho : W'.ownsRow base 36 1 (.slice A' (O.length + 1) c') (O.length + 1) (icells (O ++ [(some ⟨B, off, none⟩, cx, x)]))) (hg : (W.alloc ob).grownBy W' (Value.ownBlock (.slice A O.length c)))
    (hat : Value.ownBlock (.slice A' (O.length + 1) c') = Value.ownBlock (.slice A O.length c) ∨ Value.ownBlock (.slice A' (O.length + 1) c') = some (W.heap.size + 1)) :
    LRow W' base A' c' (O ++ [(some ⟨B, off, none⟩, cx, x)]) := by
  have hl : (O ++ [((some ⟨B, off, none⟩, cx, x) : Item Sp)]).length = O.length + 1 := by simp
  have key : ∀ b off' y, Lst (some ⟨b, off', none⟩) y W → y ≠ [] → some b ≠ Value.ownBlock (.slice A O.length c) → Lst (some ⟨b, off', none⟩) y W' ∧ some b ≠ Value.ownBlock (.slice A' (O.length + 1) c') := by
    intro b off' y hy hy0 hb
    obtain ⟨b2, off2, _, e2, _, hc, _⟩ := hy.sp.at_ (j := 0) (List.length_pos_iff.2 hy0)
    injection e2 with e2
    injection e2 with e3 e4 e5
    subst e3; subst e4
    have hlt := lt_of_cell hc
    have hy2 : Lst (some ⟨b, off', none⟩) y (W.alloc ob) := hy.below ((Below.refl _ _).alloc (Nat.le_refl _) _)
    refine ⟨hy2.grown hg rfl hb, ?_⟩
    rcases hat with e | e
    · rw [e]; exact hb
    · rw [e]; intro e'; injection e' with e'; omega
  refine ⟨by rw [hl]; exact ho, fun i hi => ?_, fun e => by simp at e⟩
  rw [hl]
  rcases List.mem_append.1 hi with hi | hi
  · obtain ⟨h1, h2, b, off', h3, h4⟩ := h.it i hi
    rw [h3] at h1 ⊢
    obtain ⟨k1, k2⟩ := key b off' _ h1 h2 h4
    exact ⟨k1, h2, b, off', rfl, k2⟩
  · simp at hi; subst hi
    obtain ⟨k1, k2⟩ := key B off x hx hx0 hB
    exact ⟨k1, hx0, B, off, rfl, k2⟩
theorem LRow.bel {W W' w : World} {base : Nat} {A : Option Addr} {c n : Nat} {O : List (Item Sp)} {ob : Obj} (h : LRow W base A c O) (hb : Below base w W) (hg : (W.alloc ob).grownBy W' (Value.ownBlock (.slice A O.length c))) (hB : base ≤ W.heap.size) : Below base w W' :=
  below_pushed hb h.row (Nat.le_refl _) hB hg
def toKV (i : Item Sp) (k : Nat) : KV := { b := ((i.1.map Addr.block).getD 0), off := ((i.1.map Addr.off).getD 0), n := i.2.2.length, c := i.2.1, key := keyS i.2.2, ix := k }
def kvs (O : List (Item Sp)) : List KV := O.zipIdx.map fun p => toKV p.1 p.2
theorem kvs_len (O : List (Item Sp)) : (kvs O).length = O.length := by simp [kvs]
theorem kvs_at (O : List (Item Sp)) (k : Nat) : (kvs O)[k]? = (O[k]?).map fun i => toKV i k := by
  unfold kvs
  rw [List.getElem?_map, List.getElem?_zipIdx]
  cases O[k]? <;> simp
theorem kvs_ix (O : List (Item Sp)) (n : Nat) : IxB (kvs O) 0 n := by
  intro i j x y h1 h2 h3 e1 e2
  rw [kvs_at] at e1 e2
  obtain ⟨u, _, rfl⟩ := Option.map_eq_some_iff.1 e1
  obtain ⟨v, _, rfl⟩ := Option.map_eq_some_iff.1 e2
  exact h2
theorem kvs_val {O : List (Item Sp)} (h : ∀ i ∈ O, ∃ b off, i.1 = some ⟨b, off, none⟩) : (kvs O).map KV.val = icells O := by
  apply List.ext_getElem?
  intro k
  rw [List.getElem?_map, kvs_at]
  unfold icells
  rw [List.getElem?_map]
  rcases ho : O[k]? with _ | i
  · rfl
  · obtain ⟨b, off, e⟩ := h i (List.mem_of_getElem? ho)
    obtain ⟨ia, ic, il⟩ := i
    simp only at e
    subst e
    rfl
theorem LRow.kst {W : World} {base g c : Nat} {O : List (Item Sp)} (h : LRow W base (some ⟨g, 0, none⟩) c O) : KSt W base g c (kvs O) := by
  have hv := kvs_val (O := O) fun i hi => by obtain ⟨_, _, b, off, e, _⟩ := h.it i hi; exact ⟨b, off, e⟩
  refine ⟨by rw [hv, kvs_len]; exact h.row, fun x hx => ?_⟩
  obtain ⟨k, hk⟩ := List.getElem?_of_mem hx
  rw [kvs_at] at hk
  obtain ⟨i, hi, rfl⟩ := Option.map_eq_some_iff.1 hk
  obtain ⟨h1, h2, b, off, h3, h4⟩ := h.it i (List.mem_of_getElem? hi)
  obtain ⟨ia, ic, il⟩ := i
  simp only at h1 h2 h3
  subst h3
  cases il with
  | nil => exact absurd rfl h2
  | cons p l =>
    obtain ⟨b2, off2, q, e2, eq2, hc, _⟩ := h1.sp.at_ (j := 0) (by simp)
    injection e2 with e2
    injection e2 with e3 e4 e5
    subst e3; subst e4
    simp at eq2
    subst eq2
    have hl := h1.len
    refine ⟨fun e => h4 (by rw [show (toKV (some ⟨b, off, none⟩, ic, p :: l) k).b = b from rfl] at e; subst e; rfl), by show 1 ≤ (p :: l).length; simp, by show (p :: l).length < _; omega, ?_⟩
    show W.cell? ⟨b, off, none⟩ = some (.int .i64 p.1)
    simpa using hc
theorem LRow.sorted {W W' : World} {base g c : Nat} {O : List (Item Sp)} {ys : List KV} (h : LRow W base (some ⟨g, 0, none⟩) c O) (hp : ys.Perm (kvs O)) (hs : SrtB ys 0 ys.length) (hk : KSt W' base g c ys) (hg : W.grownBy W' (some g)) :
    ∃ O', O'.length = O.length ∧ LRow W' base (some ⟨g, 0, none⟩) c O' ∧ StabRel (bodies O) (bodies O') := by
  have hyl : ys.length = O.length := hp.length_eq.trans (kvs_len O)
  have hin : ∀ y ∈ ys, ∃ i, O[y.ix]? = some i ∧ y = toKV i y.ix := by
    intro y hy
    obtain ⟨k, hk⟩ := List.getElem?_of_mem (hp.mem_iff.1 hy)
    rw [kvs_at] at hk
    obtain ⟨i, hi, rfl⟩ := Option.map_eq_some_iff.1 hk
    exact ⟨i, hi, rfl⟩
  refine ⟨ys.map fun y => (O[y.ix]?).getD (none, 0, []), by simp [hyl], ⟨?_, ?_, ?_⟩, ys.map KV.ix, ?_, ?_, ?_⟩
  · have e : icells (ys.map fun y => (O[y.ix]?).getD (none, 0, [])) = ys.map KV.val := by
      unfold icells
      rw [List.map_map]
      refine List.map_congr_left fun y hy => ?_
      obtain ⟨i, hi, e⟩ := hin y hy
      obtain ⟨_, _, b, off, h3, _⟩ := h.it i (List.mem_of_getElem? hi)
      simp only [Function.comp_apply, hi, Option.getD_some]
      rw [e]
      obtain ⟨ia, ic, il⟩ := i
      simp only at h3
      subst h3
      rfl
    have hr := hk.row
    rw [e, List.length_map]
    exact hr
  · intro i hi
    obtain ⟨y, hy, rfl⟩ := List.mem_map.1 hi
    obtain ⟨i, hi, e⟩ := hin y hy
    simp only [hi, Option.getD_some]
    obtain ⟨h1, h2, b, off, h3, h4⟩ := h.it i (List.mem_of_getElem? hi)
    refine ⟨h1.grown hg h3 (fun e => h4 (by rw [e]; rfl)), h2, b, off, h3, fun e => h4 (by rw [e]; rfl)⟩
  · intro e
    have : O = [] := by
      have := congrArg List.length e
      simp [hyl] at this
      exact this
    have := (h.nil this).1
    cases this
  · have e : (kvs O).map KV.ix = List.range O.length := by
      apply List.ext_getElem?
      intro k
      rw [List.getElem?_map, kvs_at]
      by_cases hk : k < O.length
      · rw [List.getElem?_eq_getElem hk, List.getElem?_range hk]; rfl
      · rw [List.getElem?_eq_none (by omega), List.getElem?_eq_none (by simp; omega)]; rfl
    rw [bodies_length, ← e]
    exact hp.map _
  · unfold bodies
    rw [List.map_map, List.map_map]
    refine List.map_congr_left fun y hy => ?_
    obtain ⟨i, hi, e⟩ := hin y hy
    have hlt := (List.getElem?_eq_some_iff.1 hi).1
    simp only [Function.comp_apply, hi, Option.getD_some]
    rw [getElem!_pos _ _ (by simpa using hlt)]
    simp [(List.getElem?_eq_some_iff.1 hi).2]
  · rw [List.pairwise_map, List.pairwise_iff_getElem]
    intro i j hi hj hij
    have hlt := hs i j _ _ (Nat.zero_le _) hij hj (List.getElem?_eq_getElem hi) (List.getElem?_eq_getElem hj)
    have key : ∀ y ∈ ys, y.key = keyS (bodies O)[y.ix]! := by
      intro y hy
      obtain ⟨i, hi, e⟩ := hin y hy
      have hlt := (List.getElem?_eq_some_iff.1 hi).1
      rw [getElem!_pos _ _ (by rw [bodies_length]; exact hlt)]
      unfold bodies
      rw [List.getElem_map, (List.getElem?_eq_some_iff.1 hi).2]
      rw [e]; rfl
    rw [← key _ (List.getElem_mem hi), ← key _ (List.getElem_mem hj)]
    exact hlt
end Go.Proofs.Ytlmkokeapbleoaa
end
section
namespace Go.Proofs.Ytlmkokeapbleoaa
open Go.RowKit
def RetLB (w0 : World) (B : Nat) (r : List Sp) (F : World → Prop) (e : Ending) (w' : World) : Prop := ∃ A c, e = .returned (.slice A r.length c) ∧ (r = [] ∨ ∃ g, A = some ⟨g, 0, none⟩ ∧ B ≤ g) ∧ Hid (St w0 w' (fun W => Lst A r W ∧ F W))
theorem retLB_own {w0 w w' : World} {r : List Sp} {F : World → Prop} {e : Ending} (hK : Hid (St w0 w F)) (hp : Plain r) (ho : OwnList w w.heap.size r e w') : RetLB w0 w.heap.size r F e w' := by
  obtain ⟨v, rfl, hown, hb⟩ := ho
  rcases id hown.2 with ⟨rfl, hx⟩ | ⟨g, cap, cur, rfl, hg1, hg2, hg3, hg4, _⟩
  · have hr : r = [] := List.eq_nil_of_length_eq_zero hx
    subst hr
    exact ⟨none, 0, rfl, .inl rfl, Lib.hid (hK.out.add hb (hp.lst (Sl.nil_ _ _ _)))⟩
  · exact ⟨_, cap, rfl, .inr ⟨g, rfl, hg1⟩, Lib.hid (hK.out.add hb (hp.lst (Sl.of_own hown)))⟩
section
variable {w0 w : World} {F : World → Prop} {A B : Option Addr} {a b r : List Sp}
theorem Meet_stB (hK : Hid (St w0 w F)) (ha : ∀ W, F W → Lst A a W) (hb : ∀ W, F W → Lst B b W) (c d : Nat) (hr : Hid (Rep r (fun x => Mem a x ∧ Mem b x))) : Calls Try.prog 41 #[.slice A a.length c, .slice B b.length d] w (RetLB w0 w.heap.size r F) := by
  have h1 := ha w hK.out.now
  have h2 := hb w hK.out.now
  refine (Meet_any A B _ c _ d a b w h1.sp h2.sp h1.wd h2.wd (by have := h1.len; omega) (by have := h2.len; omega)).mono ?_
  rintro e w1 ⟨r', ho, hr', _⟩
  obtain rfl := Rep.unique hr' hr.out (fun _ => Iff.rfl)
  exact retLB_own hK hr'.1 ho
theorem Minus_stB (hK : Hid (St w0 w F)) (ha : ∀ W, F W → Lst A a W) (hb : ∀ W, F W → Lst B b W) (c d : Nat) (hr : Hid (Rep r (fun x => Mem a x ∧ ¬ Mem b x))) : Calls Try.prog 42 #[.slice A a.length c, .slice B b.length d] w (RetLB w0 w.heap.size r F) := by
  have h1 := ha w hK.out.now
  have h2 := hb w hK.out.now
  refine (Minus_any A B _ c _ d a b w h1.sp h2.sp h1.wd h2.wd (by have := h1.len; omega) (by have := h2.len; omega)).mono ?_
  rintro e w1 ⟨r', ho, hr', _⟩
  obtain rfl := Rep.unique hr' hr.out (fun _ => Iff.rfl)
  exact retLB_own hK hr'.1 ho
end
section
variable {w0 : World} {ops : Array Oper} {rest : List Oper} {o : Oper} {a : Act} {Q : Exit → Act → World → Prop} {base : Nat} {A : Option Addr} {c n : Nat} {xs : List Value}
theorem wpList_pushL (hgd : o.guard = none) (s x : Operand) (ho : o.op = .call { callee := .builtin .append, args := #[s, x], argTypes := #[37, 37] })
    (hown : w0.ownsRow base 36 1 (.slice A n c) n xs) (hs : a.eval s = .slice A n c) (u : Value) (hu : u.oneCell' = true) (hx : a.eval x = .slice (some ⟨w0.heap.size, 0, none⟩) 1 1) (hn : n < 1099511627776) (hbase : base ≤ w0.heap.size)
    (h : ∀ A' c' w', Hid (w'.ownsRow base 36 1 (.slice A' (n + 1) c') (n + 1) (xs ++ [u])) → Hid ((w0.alloc (.cells #[u] 36)).grownBy w' (Value.ownBlock (.slice A n c))) →
      Hid (Value.ownBlock (.slice A' (n + 1) c') = Value.ownBlock (.slice A n c) ∨ Value.ownBlock (.slice A' (n + 1) c') = some (w0.heap.size + 1)) → wpList Try.prog ops Q rest (a.put o.dst (.slice A' (n + 1) c')) w') :
    wpList Try.prog ops Q (o :: rest) a (w0.alloc (.cells #[u] 36)) := by
  obtain ⟨i0, hi, hz0, hz1, hz2⟩ := info_parts infoHd
  have hs0 : (w0.alloc (.cells #[u] 36)).heap.size = w0.heap.size + 1 := by simp
  refine wpList_append_own_at _ hgd s x 37 ho base 36 i0 _ 1 24 Try.underlying37 hi hz0 hz1 hz2 rfl (by decide) _ n xs hs (hown.alloc _) ⟨w0.heap.size, 0, none⟩ 1 1 [u] hx rfl ?_ (by intro v hv; simp at hv; subst hv; exact hu)
    (by unfold maxLen; omega) (by omega) (by rw [hs0]; omega) ?_
  · exact World.news_of_block (cs := #[u]) (t := 36) (fr := (0, 0)) (heap_alloc_new w0 _)
  · intro v' w' hown' hg _ hat
    obtain ⟨A', c', rfl⟩ := own_shape hown'
    rw [hs0] at hat
    exact h A' c' w' hown' hg hat
end
def LL (A : Option Addr) (O : List (Item Sp)) (W : World) : Prop := Items Lst A O.length O W
theorem Lst.lasts : Lasts Lst := fun A l w w' h hb => h.below hb
theorem LL.below {A : Option Addr} {O : List (Item Sp)} {w w' : World} (h : LL A O w) (hb : Below w.heap.size w w') : LL A O w' := Items.below h Lst.lasts hb
theorem LRow.ll {W : World} {base : Nat} {A : Option Addr} {c : Nat} {O : List (Item Sp)} (h : LRow W base A c O) : LL A O W := ⟨Sl.of_own h.row, fun i hi => (h.it i hi).1⟩
def RetR (w0 : World) (P : List (List Sp)) (F : World → Prop) (e : Ending) (w' : World) : Prop :=
  (1024 < P.length ∧ e = .returned (.tuple #[.slice none 0 0, .int .i64 4]) ∧ Hid (St w0 w' F)) ∨
  (P.length ≤ 1024 ∧ ∃ A c O, e = .returned (.tuple #[.slice A O.length c, .int .i64 0]) ∧ Hid (StabRel P (bodies O)) ∧ Hid (St w0 w' (fun W => LL A O W ∧ F W)))
def stp (P : List (List Sp)) (m1 m2 : List Sp) : Nat → List (List Sp)
  | 0 => P
  | 1 => addL P m1
  | _ => addL (addL P m1) m2
def XOk (W : World) (X : Option Addr) (m : List Sp) (A : Option Addr) (n c : Nat) : Prop := m = [] ∨ ∃ g, X = some ⟨g, 0, none⟩ ∧ Lst X m W ∧ some g ≠ Value.ownBlock (.slice A n c)
theorem XOk.grown {W W' : World} {X A A' : Option Addr} {m : List Sp} {n c n' c' : Nat} {ob : Obj} (h : XOk W X m A n c) (hg : (W.alloc ob).grownBy W' (Value.ownBlock (.slice A n c)))
    (hat : Value.ownBlock (.slice A' n' c') = Value.ownBlock (.slice A n c) ∨ Value.ownBlock (.slice A' n' c') = some (W.heap.size + 1)) : XOk W' X m A' n' c' := by
  rcases h with h | ⟨g, rfl, h1, h2⟩
  · exact .inl h
  · by_cases hm : m = []
    · exact .inl hm
    · obtain ⟨b2, off2, _, e2, _, hc, _⟩ := h1.sp.at_ (j := 0) (List.length_pos_iff.2 hm)
      injection e2 with e2
      injection e2 with e3 e4 e5
      subst e3
      have hlt := lt_of_cell hc
      refine .inr ⟨g, rfl, (h1.below ((Below.refl _ _).alloc (Nat.le_refl _) ob)).grown hg rfl h2, ?_⟩
      rcases hat with e | e
      · rw [e]; exact h2
      · rw [e]; intro e'; injection e' with e'; omega
theorem sortNil_any (W : World) : Calls Try.prog 43 #[.slice none 0 0, .func (.func 44) #[] #[]] W fun e w' => e = .returned (.tuple #[]) ∧ W = w' := by
  have HI : Hid (∀ W : World, Calls Try.prog 64 #[.slice none 0 0, .int .i64 0, .int .i64 0, .func (.func 44) #[] #[]] W fun e w' => e = .returned (.tuple #[]) ∧ W = w') := Lib.hid fun W => by
    go_enter Try.func64, Try.ntmps64
    go_wp2_with fail
    refine wp_loop_rounds 1 ?_
    rw [rounds_succ]
    go_wp2_with fail
    go_end0
    exact ⟨rfl, rfl⟩
  have HS : Hid (∀ W : World, Calls Try.prog 51 #[.slice none 0 0, .int .i64 0, .func (.func 44) #[] #[]] W fun e w' => e = .returned (.tuple #[]) ∧ W = w') := Lib.hid fun W => by
    go_enter Try.func51, Try.ntmps51
    go_wp2_with fail
    refine wp_loop_rounds 1 ?_
    rw [rounds_succ]
    go_wp2_with (go_at_call 64; refine (HI.out _).mono ?_; rintro e w1 ⟨rfl, rfl⟩)
    refine wp_loop_rounds 1 ?_
    rw [rounds_succ]
    go_wp2_with fail
    go_end0
    exact ⟨rfl, rfl⟩
  go_enter Try.func43, Try.ntmps43
  go_wp2_with (go_at_call 51; refine (HS.out _).mono ?_; rintro e w1 ⟨rfl, rfl⟩)
  go_end0
  exact ⟨rfl, rfl⟩
theorem arr0 (A : Option Addr) (n c : Nat) (B : Option Addr) (m d : Nat) (w : World) : (Instr.index 93 (.agg #[.slice A n c, .slice B m d]) (.int .i64 0)).run Try.prog w = .ok (.slice A n c) w := by
  have hu := run_underlying Try.underlying93
  have a24 := Try.isAgg36
  have z24 := Try.sizeOf36
  simp [Instr.index, asIntOf, hu, go_sem, a24, z24]
theorem arr1 (A : Option Addr) (n c : Nat) (B : Option Addr) (m d : Nat) (w : World) : (Instr.index 93 (.agg #[.slice A n c, .slice B m d]) (.int .i64 1)).run Try.prog w = .ok (.slice B m d) w := by
  have hu := run_underlying Try.underlying93
  have a24 := Try.isAgg36
  have z24 := Try.sizeOf36
  simp [Instr.index, asIntOf, hu, go_sem, a24, z24]
theorem snocI (O : List (Item Sp)) : O = [] ∨ 0 < O.length := by cases O <;> simp
theorem addL_cons {P : List (List Sp)} {x : List Sp} (h : x ≠ []) : addL P x = P ++ [x] := if_neg h
section
variable {w0 w : World} {F : World → Prop} {A B : Option Addr} {L : List (Item Sp)} {s : List Sp}
theorem Refine_st (hK : Hid (St w0 w F)) (hb : ∀ W, F W → LL A L W) (hs : ∀ W, F W → Lst B s W) (hn : L.length < 1048576) (c d : Nat) :
    Calls Try.prog 29 #[.slice A L.length c, .slice B s.length d] w (RetR w0 (parts s [] (bodies L)) F) := by
  have hix0 := arr0
  have hix1 := arr1
  go_enter Try.func29, Try.ntmps29
  go_wp2_with fail
  go_loopw [6, 13] (fun ov kv wr => ∃ (k : Nat) (O : List (Item Sp)) (Ao : Option Addr) (co : Nat), k ≤ L.length ∧ kv = .int .i64 k ∧ ov = .slice Ao O.length co ∧ O.length ≤ 1024 ∧ Hid (LRow wr w.heap.size Ao co O) ∧ Hid (bodies O = parts s [] ((bodies L).take k)) ∧ Hid (Below w.heap.size w wr)) (fun _ kv _ => L.length - (intOf kv).toNat)
  case atStart => exact ⟨0, [], none, 0, Nat.zero_le _, rfl, rfl, by simp, Lib.hid (LRow.start _ _), Lib.hid rfl, Lib.hid (Below.refl _ _)⟩
  case round =>
  obtain ⟨k, O, Ao, co, hk, rfl, rfl, hol, HO, HP, HB⟩ := hrel
  have HS := Lib.hid (hK.out.step HB.out)
  by_cases hlt : k < L.length
  · obtain ⟨gb, off, ba, bc, b, hA, hx, hc, hwd⟩ := (hb _ HS.out.now).at_ hlt
    have hbk : (bodies L)[k]? = some b := by unfold bodies; rw [List.getElem?_map, hx]; rfl
    have HN := Lib.hid (parts_next (s := s) hbk)
    obtain ⟨m1, hm1⟩ : ∃ m, meetM b s = m := ⟨_, rfl⟩
    obtain ⟨m2, hm2⟩ : ∃ m, minusL b s = m := ⟨_, rfl⟩
    have R1 : Hid (Rep m1 (fun x => Mem b x ∧ Mem s x)) := by rw [← hm1]; exact meetL_rep b s
    have R2 : Hid (Rep m2 (fun x => Mem b x ∧ ¬ Mem s x)) := by rw [← hm2]; exact minusL_rep b s
    rw [hm1, hm2, ← HP.out] at HN
    have HK1 := Lib.hid (HS.out.add (Below.refl _ _) (G := fun W => LRow W w.heap.size Ao co O ∧ Lst ba b W ∧ Below w.heap.size w W ∧ Below wr.heap.size wr W) (fun W hW => ⟨HO.out.below hW, hwd.below hW, below_to HB.out hW, hW⟩))
    have hgs : ∀ g, Value.ownBlock (.slice Ao O.length co) = some g → g < wr.heap.size := fun g e => (HO.out.row.lt g e).2
    have HGS := Lib.hid hgs
    subst hA
    clear hx hwd hbk hm1 hm2 hgs
    go_wp2_with fail
    refine (Meet_stB HK1 (fun _ h => h.1.2.1) (fun _ h => hs _ h.2) _ _ R1).mono ?_
    rintro e w1 ⟨X1, c1, rfl, hX1, HK2⟩
    have HXB1 := Lib.hid hX1
    have hsz1 : wr.heap.size ≤ w1.heap.size := HK2.out.now.2.1.2.2.2.size
    clear hX1
    go_wp2_with fail
    refine (Minus_stB HK2 (fun _ h => h.2.1.2.1) (fun _ h => hs _ h.2.2) _ _ R2).mono ?_
    rintro e w2 ⟨X2, c2, rfl, hX2, HK3⟩
    have HXB2 := Lib.hid hX2
    clear hX2
    obtain ⟨hl2, hl1, ⟨hrow, _, hbw, _⟩, _⟩ := HK3.out.now
    have HO2 := Lib.hid hrow
    have HB2 := Lib.hid hbw
    have HX1 : Hid (XOk w2 X1 m1 Ao O.length co) := by
      rcases HXB1.out with h | ⟨g, hg, hge⟩
      · exact .inl h
      · exact .inr ⟨g, hg, hl1, fun e => by have := HGS.out g e.symm; omega⟩
    have HX2 : Hid (XOk w2 X2 m2 Ao O.length co) := by
      rcases HXB2.out with h | ⟨g, hg, hge⟩
      · exact .inl h
      · exact .inr ⟨g, hg, hl2, fun e => by have := HGS.out g e.symm; omega⟩
    have hml : m1.length < 137438953472 ∧ m2.length < 137438953472 := ⟨hl1.len, hl2.len⟩
    obtain ⟨hml1, hml2⟩ := hml
    obtain ⟨P, hP⟩ : ∃ P, bodies O = P := ⟨_, rfl⟩
    have HPP : Hid (bodies O = stp P m1 m2 0) := Lib.hid hP
    rw [hP] at HN
    clear hl2 hl1 hrow hbw HK1 HK2 HK3 HXB1 HXB2 HGS hP R1 R2
    go_wp2_with fail
    go_loopw [6, 24] (fun ov jv wq => ∃ (j : Nat) (M : List (Item Sp)) (Am : Option Addr) (cm : Nat), j ≤ 2 ∧ jv = .int .i64 j ∧ ov = .slice Am M.length cm ∧ M.length ≤ 1024 + j ∧ Hid (LRow wq w.heap.size Am cm M) ∧ Hid (bodies M = stp P m1 m2 j) ∧ Hid (XOk wq X1 m1 Am M.length cm) ∧ Hid (XOk wq X2 m2 Am M.length cm) ∧ Hid (Below w.heap.size w wq)) (fun _ jv _ => 2 - (intOf jv).toNat)
    case atStart => exact ⟨0, O, Ao, co, by omega, rfl, rfl, by omega, HO2, HPP, HX1, HX2, HB2⟩
    case round =>
    obtain ⟨j, M, Am, cm, hj, rfl, rfl, hml, HM, HPM, HY1, HY2, HBM⟩ := hrel
    have hj3 : j = 0 ∨ j = 1 ∨ j = 2 := by omega
    rcases hj3 with rfl | rfl | rfl
    · by_cases hm : m1 = []
      · subst hm
        have HPN : Hid (bodies M = stp P [] m2 1) := by unfold Hid; rw [HPM.out]; rfl
        go_wp2_with fail
        exact ⟨⟨1, M, Am, cm, by omega, by go_num, rfl, by omega, HM, HPN, HY1, HY2, HBM⟩, by simp [intOf]⟩
      · have hpos : (0 : Int) < m1.length := by have := List.length_pos_iff.2 hm; omega
        obtain ⟨gx, hgx, hlx, hnx⟩ := HY1.out.resolve_left hm
        have HLX := Lib.hid hlx
        have HNX := Lib.hid hnx
        have HMM := Lib.hid hm
        have HPN : Hid (bodies M ++ [m1] = stp P m1 m2 1) := by unfold Hid; rw [HPM.out]; exact (addL_cons hm).symm
        subst hgx
        clear hlx hnx hm
        go_wp2_with (at_builtin; go_must (refine wpList_pushL rfl _ _ rfl HM.out.row rfl (.slice (some ⟨gx, 0, none⟩) m1.length c1) rfl (by first | rfl | (simp; rfl) | simp) (by omega) HBM.out.size ?_); intro A5 c5 w5 HO5 HG5 HAT5)
        have HM5 := Lib.hid (HM.out.pushed (cx := c1) HLX.out HMM.out HNX.out (by rw [icells_append]; exact HO5.out) HG5.out HAT5.out)
        have hl5 : (M ++ [((some ⟨gx, 0, none⟩, c1, m1) : Item Sp)]).length = M.length + 1 := by simp
        exact ⟨⟨1, M ++ [(some ⟨gx, 0, none⟩, c1, m1)], A5, c5, by omega, by go_num, by rw [hl5], by rw [hl5]; omega, HM5, by unfold Hid; rw [bodies_append]; exact HPN.out, by rw [hl5]; exact Lib.hid (HY1.out.grown HG5.out HAT5.out), by rw [hl5]; exact Lib.hid (HY2.out.grown HG5.out HAT5.out), Lib.hid (HM.out.bel (n := 0) HBM.out HG5.out HBM.out.size)⟩, by simp [intOf]⟩
    · by_cases hm : m2 = []
      · subst hm
        have HPN : Hid (bodies M = stp P m1 [] 2) := by unfold Hid; rw [HPM.out]; rfl
        go_wp2_with fail
        exact ⟨⟨2, M, Am, cm, by omega, by go_num, rfl, by omega, HM, HPN, HY1, HY2, HBM⟩, by simp [intOf]⟩
      · have hpos : (0 : Int) < m2.length := by have := List.length_pos_iff.2 hm; omega
        obtain ⟨gx, hgx, hlx, hnx⟩ := HY2.out.resolve_left hm
        have HLX := Lib.hid hlx
        have HNX := Lib.hid hnx
        have HMM := Lib.hid hm
        have HPN : Hid (bodies M ++ [m2] = stp P m1 m2 2) := by unfold Hid; rw [HPM.out]; exact (addL_cons hm).symm
        subst hgx
        clear hlx hnx hm
        go_wp2_with (at_builtin; go_must (refine wpList_pushL rfl _ _ rfl HM.out.row rfl (.slice (some ⟨gx, 0, none⟩) m2.length c2) rfl (by first | rfl | (simp; rfl) | simp) (by omega) HBM.out.size ?_); intro A5 c5 w5 HO5 HG5 HAT5)
        have HM5 := Lib.hid (HM.out.pushed (cx := c2) HLX.out HMM.out HNX.out (by rw [icells_append]; exact HO5.out) HG5.out HAT5.out)
        have hl5 : (M ++ [((some ⟨gx, 0, none⟩, c2, m2) : Item Sp)]).length = M.length + 1 := by simp
        exact ⟨⟨2, M ++ [(some ⟨gx, 0, none⟩, c2, m2)], A5, c5, by omega, by go_num, by rw [hl5], by rw [hl5]; omega, HM5, by unfold Hid; rw [bodies_append]; exact HPN.out, by rw [hl5]; exact Lib.hid (HY1.out.grown HG5.out HAT5.out), by rw [hl5]; exact Lib.hid (HY2.out.grown HG5.out HAT5.out), Lib.hid (HM.out.bel (n := 0) HBM.out HG5.out HBM.out.size)⟩, by simp [intOf]⟩
    · have HPK : Hid (bodies M = parts s [] ((bodies L).take (k + 1))) := Lib.hid (HPM.out.trans HN.out.symm)
      by_cases hbig : 1024 < M.length
      · have hbig' : (1024 : Int) < M.length := by omega
        have HKE := Lib.hid (hK.out.step HBM.out)
        have HLE : Hid (1024 < (parts s [] (bodies L)).length) := by
          unfold Hid
          have h1 := parts_append s ((bodies L).take (k + 1)) ((bodies L).drop (k + 1)) []
          rw [List.take_append_drop] at h1
          rw [h1, ← HPK.out]
          have h2 := parts_len s ((bodies L).drop (k + 1)) (bodies M)
          rw [bodies_length] at h2
          omega
        go_wp2_with fail
        go_ret2
        exact .inl ⟨HLE.out, rfl, HKE⟩
      · have hbig' : ¬ (1024 : Int) < M.length := by omega
        go_wp2_with fail
        exact ⟨⟨k + 1, M, Am, cm, by omega, by go_num, rfl, by omega, HM, HPK, HBM⟩, by simp [intOf]; omega⟩
  · obtain rfl : k = L.length := by omega
    have hd : decide (L.length < L.length) = false := by simp
    have HPA : Hid (bodies O = parts s [] (bodies L)) := by
      have := HP.out
      rw [← bodies_length (L := L), List.take_length] at this
      exact this
    have HLE : Hid ((parts s [] (bodies L)).length ≤ 1024) := by
      unfold Hid
      rw [← HPA.out, bodies_length]; exact hol
    rcases snocI O with rfl | hne
    · obtain ⟨rfl, rfl⟩ := HO.out.nil rfl
      go_wp2_with fail
      refine (sortNil_any wr).mono ?_
      rintro e w3 ⟨rfl, rfl⟩
      go_wp2_with fail
      go_ret2
      exact .inr ⟨HLE.out, none, 0, [], rfl, by rw [← HPA.out]; exact Lib.hid StabRel.nil_, Lib.hid (HS.out.add (Below.refl _ _) (fun W hW => HO.out.ll.below hW))⟩
    · obtain ⟨g, cap, hv, hg1, hg2⟩ := HO.out.row.form hne
      obtain ⟨rfl, rfl⟩ : Ao = some ⟨g, 0, none⟩ ∧ co = cap := by injection hv with h1 h2 h3; exact ⟨h1, h3⟩
      clear hv
      have hkl := kvs_len O
      go_wp2_with fail
      rw [← hkl]
      refine (sortStable_any w.heap.size g co (kvs O) wr (Lib.hid HO.out.kst) (Lib.hid (kvs_ix O _)) (by rw [hkl]; omega)).mono ?_
      rintro e w3 ⟨rfl, ys, ⟨r1, r2⟩, r3, r4⟩
      obtain ⟨O', o1, o2, o3⟩ := HO.out.sorted r1 r2 r3 r4
      have HO3 := Lib.hid o2
      have HST := Lib.hid o3
      have HB3 := Lib.hid (HB.out.grown r4 HB.out.size (fun k e => by injection e with e; omega))
      clear r1 r2 r3 r4 o2 o3
      rw [hkl]
      go_wp2_with fail
      go_ret2
      exact .inr ⟨HLE.out, _, co, O', (by rw [o1]; rfl), by rw [← HPA.out]; exact HST, Lib.hid ((hK.out.add HB3.out (fun W hW => HO3.out.ll.below hW)))⟩
end
end Go.Proofs.Ytlmkokeapbleoaa
end
section
namespace Go.Proofs.Ytlmkokeapbleoaa
open Go.RowKit Go.ChangeShapes Go.WideShapes Go.Deep
end Go.Proofs.Ytlmkokeapbleoaa
end
section
namespace Go.Proofs.Ytlmkokeapbleoaa
open Go.RowKit Go.ChangeShapes Go.WideShapes Go.Deep
abbrev Lst3 := Item Sp
def SpI (A : Option Addr) (l : List Sp) (W : World) : Prop := Spans W A l.length l ∧ SpW l ∧ l.length ≤ 9223372036854775807
theorem SpI.lasts : Lasts SpI := fun A l w w' h hb => ⟨h.1.below hb, h.2⟩
def SssIn (W : World) (A : Option Addr) (n : Nat) (L : List Lst3) : Prop := Items SpI A n L W ∧ n ≤ 9223372036854775807
end Go.Proofs.Ytlmkokeapbleoaa
end
section
namespace Go.Proofs.Ytlmkokeapbleoaa
open Go.RowKit
def bigL (L : List (Item Sp)) : Bool := decide (30 < L.length) || L.any fun i => decide (30 < i.2.2.length)
theorem bigL_no {L : List (Item Sp)} (h : bigL L = false) : L.length ≤ 30 ∧ ∀ i ∈ L, i.2.2.length ≤ 30 := by
  simpa [bigL] using h
theorem SssIn.ll {W : World} {A : Option Addr} {n : Nat} {L : List (Item Sp)} (h : SssIn W A n L) (hb : bigL L = false) : n = L.length ∧ ∀ w', Below W.heap.size W w' → LL A L w' := by
  have hl := h.1.len
  obtain ⟨h1, h2⟩ := bigL_no hb
  refine ⟨hl.symm, fun w' hw => ?_⟩
  subst hl
  refine ⟨Sl.below (B := 0) h.1.sl hw, fun i hi => ?_⟩
  obtain ⟨a1, a2, a3⟩ := h.1.it i hi
  have := h2 i hi
  exact ⟨a1.below hw, a2, by omega⟩
def classI (L : List (List Sp)) (x : Int) : Int := if L.any (fun l => hasB l x) then (L.findIdx (fun l => hasB l x) : Int) else -1
section
variable {w0 w : World} {F : World → Prop} {A B : Option Addr} {L M : List (Item Sp)}
end
end Go.Proofs.Ytlmkokeapbleoaa
end
section
namespace Go.Proofs.Ytlmkokeapbleoaa
open Go.RowKit
noncomputable def stabS (P : List (List Sp)) : List (List Sp) := open Classical in if h : ∃ Q, StabRel P Q then Classical.choose h else []
theorem stabS_eq {P Q : List (List Sp)} (h : StabRel P Q) : stabS P = Q := by
  unfold stabS
  rw [dif_pos ⟨Q, h⟩]
  exact StabRel.unique (Classical.choose_spec (⟨Q, h⟩ : ∃ Q, StabRel P Q)) h
noncomputable def splitF : List (List Sp) → List (List Sp) → Option (List (List Sp))
  | out, [] => some out
  | out, s :: fam => if 1024 < (parts s [] out).length then none else splitF (stabS (parts s [] out)) fam
noncomputable def splitL (r : List Sp) (fam : List (List Sp)) : Option (List (List Sp)) := if r = [] then some [] else splitF [r] fam
theorem splitF_append (L M : List (List Sp)) (out : List (List Sp)) : splitF out (L ++ M) = (splitF out L).bind fun P => splitF P M := by
  induction L generalizing out with
  | nil => rfl
  | cons s L ih =>
    simp only [splitF, List.cons_append]
    split
    · rfl
    · exact ih _
theorem splitF_next {L : List (List Sp)} {k : Nat} {s : List Sp} {out P : List (List Sp)} (h : L[k]? = some s) (hP : splitF out (L.take k) = some P) :
    splitF out (L.take (k + 1)) = if 1024 < (parts s [] P).length then none else some (stabS (parts s [] P)) := by
  rw [take_snoc? h, splitF_append, hP]
  rfl
theorem splitF_none {L : List (List Sp)} {k : Nat} {out : List (List Sp)} (h : splitF out (L.take k) = none) : splitF out L = none := by
  have := splitF_append (L.take k) (L.drop k) out
  rw [List.take_append_drop, h] at this
  exact this
def RetSplit (w0 : World) (S : Option (List (List Sp))) (F : World → Prop) (e : Ending) (w' : World) : Prop :=
  (S = none ∧ e = .returned (.tuple #[.slice none 0 0, .int .i64 4]) ∧ Hid (St w0 w' F)) ∨
  (∃ A c O, S = some (bodies O) ∧ O.length ≤ 1024 ∧ e = .returned (.tuple #[.slice A O.length c, .int .i64 0]) ∧ Hid (St w0 w' (fun W => LL A O W ∧ F W)))
theorem St.litL {w0 w : World} {F : World → Prop} (hK : Hid (St w0 w F)) (its : List (Item Sp)) (h : ∀ W, F W → AllIt Lst its W) (cs : Array Value) (hcs : cs = (icells its).toArray) :
    Hid (St w0 (w.alloc (.cells cs 36)) (fun W => LL (some ⟨w.heap.size, 0, none⟩) its W ∧ F W)) := by
  subst hcs
  have hb : Below w.heap.size w (w.alloc (.cells (icells its).toArray 36)) := (Below.refl _ _).alloc (Nat.le_refl _) _
  refine Lib.hid (hK.out.add hb (fun W hW => ⟨⟨by rw [icells_length]; simp, fun hn => ⟨_, 0, rfl, fun j u hu => ?_⟩⟩, h W (hK.out.1 W (below_to hb hW))⟩))
  have hbk := heap_alloc_new w (.cells (icells its).toArray 36)
  rw [hW.cell (p := ⟨w.heap.size, 0 + j, none⟩) (by simp)]
  simp only [World.cell?, hbk]
  simpa using hu
section
variable {w0 w : World} {F : World → Prop} {A B : Option Addr} {L : List (Item Sp)} {a r : List Sp}
theorem Split_st (hK : Hid (St w0 w F)) (ha : ∀ W, F W → Lst A a W) (hb : ∀ W, F W → LL B L W) (hn : L.length < 1048576) (c d : Nat) (hr : Hid (Rep r (Mem a))) :
    Calls Try.prog 17 #[.slice A a.length c, .slice B L.length d] w (RetSplit w0 (splitL r (bodies L)) F) := by
  go_enter Try.func17, Try.ntmps17
  go_wp2_with fail
  refine (Norm_st hK (fun _ h => ha _ h) _ hr).mono ?_
  rintro e w1 ⟨A1, c1, rfl, HK⟩
  have HK := St.litL HK [(A1, c1, r)] (fun W h i hi => by simp at hi; subst hi; exact h.1) #[.slice A1 r.length c1] rfl
  obtain ⟨gb, off, xa, xc, x, hA, hx, hc, _⟩ := HK.out.now.1.at_ (j := 0) (by simp)
  injection hA with hA
  injection hA with h1 h2 h3
  subst h1; subst h2
  simp at hx
  obtain ⟨rfl, rfl, rfl⟩ := hx
  by_cases hre : r = []
  · subst hre
    have HK2 : Hid (St w0 (w1.alloc (.cells #[.slice A1 ([] : List Sp).length c1] 36)) F) := Lib.hid (HK.out.weaken fun W h => h.2.2)
    clear HK
    go_wp2_with fail
    go_ret2
    exact .inr ⟨none, 0, [], by unfold splitL; rw [if_pos rfl]; rfl, by simp, rfl, Lib.hid (HK2.out.add (Below.refl _ _) (fun W hW => Items.nil_ _ _ _))⟩
  have hrl : ((r.length : Int) == 0) = false := by
    rw [beq_eq_false_iff_ne]
    have := List.length_pos_iff.2 hre
    omega
  have HS0 : Hid (splitL r (bodies L) = splitF [r] (bodies L)) := by unfold Hid splitL; rw [if_neg hre]
  clear hre
  go_wp2_with fail
  go_loopw [6, 20] (fun ov iv wr => ∃ (k : Nat) (O : List (Item Sp)) (Ao : Option Addr) (co : Nat), k ≤ L.length ∧ iv = .int .i64 k ∧ ov = .slice Ao O.length co ∧ O.length ≤ 1024 ∧ Hid (splitF [r] ((bodies L).take k) = some (bodies O)) ∧ Hid (St w0 wr (fun W => LL Ao O W ∧ F W))) (fun _ iv _ => L.length - (intOf iv).toNat)
  case atStart => exact ⟨0, [(A1, c1, r)], _, 1, Nat.zero_le _, rfl, rfl, by simp, Lib.hid rfl, Lib.hid (HK.out.weaken fun W h => ⟨h.1, h.2.2⟩)⟩
  case round =>
  obtain ⟨k, O, Ao, co, hk, rfl, rfl, hol, HP, HK⟩ := hrel
  by_cases hlt : k < L.length
  · obtain ⟨gs, offs, sa, sc, s, hS, hx, hcs, hwd⟩ := (hb _ HK.out.now.2).at_ hlt
    have hbk : (bodies L)[k]? = some s := by unfold bodies; rw [List.getElem?_map, hx]; rfl
    have HBK := Lib.hid hbk
    have HK2 := Lib.hid (HK.out.add (Below.refl _ _) (G := Lst sa s) (fun W hW => hwd.below hW))
    have HN := Lib.hid (splitF_next hbk HP.out)
    subst hS
    clear hx hbk hwd hc
    go_wp2_with fail
    refine (Refine_st HK2 (fun _ h => h.2.1) (fun _ h => h.1) (by omega) _ _).mono ?_
    rintro e w2 hR
    rcases hR with ⟨hbig, rfl, HK3⟩ | ⟨hsm, A3, c3, O3, rfl, HST, HK3⟩
    · have HNN : Hid (splitL r (bodies L) = none) := by
        unfold Hid
        rw [HS0.out]
        exact splitF_none (k := k + 1) (by rw [HN.out, if_pos hbig])
      go_wp2_with fail
      go_ret2
      exact .inl ⟨HNN.out, rfl, Lib.hid (HK3.out.weaken fun W h => h.2.2)⟩
    · have HNN : Hid (splitF [r] ((bodies L).take (k + 1)) = some (bodies O3)) := by
        unfold Hid
        rw [HN.out, if_neg (by omega), stabS_eq HST.out]
      have hl3 : O3.length ≤ 1024 := by
        have := HST.out.len
        rw [bodies_length] at this
        omega
      go_wp2_with fail
      exact ⟨⟨k + 1, O3, A3, c3, by omega, by go_num, rfl, hl3, HNN, Lib.hid (HK3.out.weaken fun W h => ⟨h.1, h.2.2.2⟩)⟩, by simp [intOf]; omega⟩
  · obtain rfl : k = L.length := by omega
    have hd : decide (L.length < L.length) = false := by simp
    have HPA : Hid (splitL r (bodies L) = some (bodies O)) := by
      unfold Hid
      rw [HS0.out, ← HP.out, ← bodies_length (L := L), List.take_length]
    go_wp2_with fail
    go_ret2
    exact .inr ⟨Ao, co, O, HPA.out, hol, rfl, HK⟩
end
theorem meetL_eq {a b r : List Sp} (h : Rep r (fun x => Mem a x ∧ Mem b x)) : meetM a b = r := Rep.unique (meetL_rep a b).out h (fun _ => Iff.rfl)
theorem minusL_eq {a b r : List Sp} (h : Rep r (fun x => Mem a x ∧ ¬ Mem b x)) : minusL a b = r := Rep.unique (minusL_rep a b).out h (fun _ => Iff.rfl)
end Go.Proofs.Ytlmkokeapbleoaa
end
section
namespace Go.Proofs.Ytlmkokeapbleoaa
open Go.RowKit
theorem infoI64 : (Try.prog.info? 3).map (fun i => (i.zero, i.size, i.bytes)) = some (some (.int .i64 0), 1, 8) := by kernel_rfl
noncomputable def normL (l : List Sp) : List Sp := Classical.choose (rep_norm l)
theorem normL_rep (l : List Sp) : Hid (Rep (normL l) (Mem l)) := Classical.choose_spec (rep_norm l)
noncomputable def leastI (l : List Sp) : Int := if optB (nthS (normL l) 0) then optD (nthS (normL l) 0) else -1
def classes (L : List (List Sp)) (n : Nat) : List Int := (List.range n).map fun i : Nat => classI L (i : Int)
section
variable {w0 w : World} {F : World → Prop} {A : Option Addr} {L : List (Item Sp)}
end
end Go.Proofs.Ytlmkokeapbleoaa
end
