/- The library's stable sort of a row of slices by the least numbers of what they hold. Condition: as StabRow says. -/
import Derived.Test.YtdaagdohhnhbdaaStabMerge
namespace Go.Proofs.Ytdaagdohhnhbdaa
open Go.RowKit
set_option linter.unusedVariables false

theorem IxB.cross {xs : List KV} {n p : Nat} (h : IxB xs 0 n) : IxX xs 0 p n := fun i j x y h1 h2 h3 h4 e1 e2 => h i j x y h1 (by omega) h4 e1 e2
theorem IxX.moved {xs ys : List KV} {a b p n : Nat} (h : IxX xs 0 p n) (hr : Rch a b xs ys) (hp : p ≤ a ∨ b ≤ p) (hb : b ≤ n) (hn : n ≤ xs.length) : IxX ys 0 p n := by
  intro i j x y h1 h2 h3 h4 e1 e2
  have fr : ∀ q z, ys[q]? = some z → q < n → ∃ q', (q < p ↔ q' < p) ∧ q' < n ∧ xs[q']? = some z := by
    intro q z hz hq
    by_cases hab : a ≤ q ∧ q < b
    · obtain ⟨q', g1, g2, g3, g4⟩ := hr.from_ q hab.1 hab.2 (by omega)
      exact ⟨q', by omega, by omega, by rw [← g4]; exact hz⟩
    · exact ⟨q, Iff.rfl, hq, by rw [← hr.out q (by omega)]; exact hz⟩
  obtain ⟨i', a1, a2, a3⟩ := fr i x e1 (by omega)
  obtain ⟨j', b1, b2, b3⟩ := fr j y e2 h4
  exact h i' j' x y (Nat.zero_le _) (by omega) (by omega) b2 a3 b3
/-- on the way: blocks of 20 up to a -/
def J1 (xs0 xs : List KV) (n a : Nat) : Prop := Rch 0 n xs0 xs ∧ 20 ∣ a ∧ a ≤ n ∧ (∀ p, 20 ∣ p → p < a → SrtB xs p (p + 20)) ∧ (∀ j, a ≤ j → xs[j]? = xs0[j]?) ∧ (∀ p, 20 ∣ p → IxX xs 0 p n)
/-- blocks of k -/
def J2 (xs0 xs : List KV) (n k : Nat) : Prop := Rch 0 n xs0 xs ∧ (∀ p, k ∣ p → p < n → SrtB xs p (min (p + k) n)) ∧ (∀ p, k ∣ p → IxX xs 0 p n)
/-- .. on the way to blocks twice as long, up to a -/
def J3 (xs0 xs : List KV) (n k a : Nat) : Prop := Rch 0 n xs0 xs ∧ 2 * k ∣ a ∧ a ≤ n ∧ (∀ p, 2 * k ∣ p → p < a → SrtB xs p (p + 2 * k)) ∧ (∀ p, k ∣ p → a ≤ p → p < n → SrtB xs p (min (p + k) n)) ∧ (∀ p, 2 * k ∣ p → IxX xs 0 p n) ∧ (∀ p, k ∣ p → a ≤ p → IxX xs 0 p n)
theorem J1.start {xs0 : List KV} {n : Nat} (h : IxB xs0 0 n) : J1 xs0 xs0 n 0 := ⟨Rch.refl _ _ _, ⟨0, rfl⟩, Nat.zero_le _, fun p _ hp => by omega, fun _ _ => rfl, fun p _ => h.cross⟩
theorem J1.ix {xs0 xs : List KV} {n a b : Nat} (h0 : IxB xs0 0 n) (h : J1 xs0 xs n a) (hb : b ≤ n) : IxB xs a b := by
  obtain ⟨_, _, _, _, h4, _⟩ := h
  intro i j x y h1 h2 h3 e1 e2
  rw [h4 i h1] at e1
  rw [h4 j (by omega)] at e2
  exact h0 i j x y (Nat.zero_le _) h2 (by omega) e1 e2
theorem dvd_next {k p a : Nat} (h : k ∣ p) (h' : k ∣ a) (hp : a < p) : a + k ≤ p := by
  obtain ⟨c, rfl⟩ := h
  obtain ⟨d, rfl⟩ := h'
  have h1 : d < c := Nat.lt_of_mul_lt_mul_left hp
  have := Nat.mul_le_mul_left k (show d + 1 ≤ c from h1)
  rw [Nat.mul_add, Nat.mul_one] at this
  exact this
theorem J1.next {xs0 xs ys : List KV} {n a : Nat} (h : J1 xs0 xs n a) (hb : a + 20 ≤ n) (hn : n ≤ xs.length) (hr : Rch a (a + 20) xs ys) (hs : SrtB ys a (a + 20)) : J1 xs0 ys n (a + 20) := by
  obtain ⟨h0, h1, h2, h3, h4, h5⟩ := h
  refine ⟨h0.trans (hr.mono (Nat.zero_le _) hb), by omega, hb, fun p hp hlt => ?_, fun j hj => (hr.out j (.inr hj)).trans (h4 j (by omega)), fun p hp => (h5 p hp).moved hr ?_ hb hn⟩
  · by_cases e : p = a
    · subst e; exact hs
    · exact (h3 p hp (by omega)).out hr (.inl (by omega))
  · by_cases e : p ≤ a
    · exact .inl e
    · exact .inr (dvd_next hp h1 (by omega))
theorem J1.done {xs0 xs ys : List KV} {n a : Nat} (h : J1 xs0 xs n a) (hb : n < a + 20) (hn : n ≤ xs.length) (hr : Rch a n xs ys) (hs : SrtB ys a n) : J2 xs0 ys n 20 := by
  obtain ⟨h0, h1, h2, h3, h4, h5⟩ := h
  refine ⟨h0.trans (hr.mono (Nat.zero_le _) (Nat.le_refl _)), fun p hp hlt => ?_, fun p hp => ?_⟩
  · by_cases e : p = a
    · subst e; rw [Nat.min_eq_right (by omega)]; exact hs
    · have : p < a := by omega
      rw [Nat.min_eq_left (by omega)]
      exact (h3 p hp this).out hr (.inl (by omega))
  · by_cases e : p ≤ a
    · exact (h5 p hp).moved hr (.inl e) (Nat.le_refl _) hn
    · have := dvd_next hp h1 (by omega)
      exact (h5 p hp).moved hr (.inr (by omega)) (Nat.le_refl _) hn
theorem J2.go {xs0 xs : List KV} {n k : Nat} (h : J2 xs0 xs n k) : J3 xs0 xs n k 0 := by
  obtain ⟨h0, h1, h2⟩ := h
  exact ⟨h0, ⟨0, rfl⟩, Nat.zero_le _, fun p _ hp => by omega, fun p hp _ hlt => h1 p hp hlt, fun p hp => h2 p (Nat.dvd_trans ⟨2, by omega⟩ hp), fun p hp _ => h2 p hp⟩
theorem J3.two {xs0 xs : List KV} {n k a b : Nat} (hk : 1 ≤ k) (h : J3 xs0 xs n k a) (hm : a + k < b) (hb : b ≤ n) (hb2 : b ≤ a + 2 * k) : SrtB xs a (a + k) ∧ SrtB xs (a + k) b ∧ IxX xs a (a + k) b := by
  obtain ⟨h0, h1, h2, h3, h4, h5, h6⟩ := h
  have d1 : k ∣ a := Nat.dvd_trans ⟨2, by omega⟩ h1
  have d2 : k ∣ a + k := (Nat.dvd_add_right d1).2 (Nat.dvd_refl k)
  have s1 := h4 a d1 (Nat.le_refl _) (by omega)
  have s2 := h4 (a + k) d2 (by omega) (by omega)
  have x1 := h6 (a + k) d2 (by omega)
  rw [Nat.min_eq_left (by omega)] at s1
  refine ⟨s1, fun i j x y g1 g2 g3 => s2 i j x y g1 g2 (by omega), fun i j x y g1 g2 g3 g4 => x1 i j x y (Nat.zero_le _) g2 g3 (by omega)⟩
theorem J3.next {xs0 xs ys : List KV} {n k a : Nat} (hk : 1 ≤ k) (h : J3 xs0 xs n k a) (hb : a + 2 * k ≤ n) (hn : n ≤ xs.length) (hr : Rch a (a + 2 * k) xs ys) (hs : SrtB ys a (a + 2 * k)) : J3 xs0 ys n k (a + 2 * k) := by
  obtain ⟨h0, h1, h2, h3, h4, h5, h6⟩ := h
  refine ⟨h0.trans (hr.mono (Nat.zero_le _) hb), (Nat.dvd_add_right h1).2 (Nat.dvd_refl _), hb, fun p hp hlt => ?_, fun p hp hge hlt => (h4 p hp (by omega) hlt).out hr (.inr hge), fun p hp => (h5 p hp).moved hr ?_ hb hn, fun p hp hge => (h6 p hp (by omega)).moved hr (.inr hge) hb hn⟩
  · by_cases e : p = a
    · subst e; exact hs
    · by_cases e2 : p < a
      · exact (h3 p hp e2).out hr (.inl (dvd_next h1 hp e2))
      · have := dvd_next hp h1 (by omega)
        omega
  · by_cases e : p ≤ a
    · exact .inl e
    · exact .inr (dvd_next hp h1 (by omega))
theorem J3.done {xs0 xs ys : List KV} {n k a : Nat} (hk : 1 ≤ k) (h : J3 xs0 xs n k a) (hb : n < a + 2 * k) (hn : n ≤ xs.length) (hr : Rch a n xs ys) (hs : SrtB ys a n) : J2 xs0 ys n (2 * k) := by
  obtain ⟨h0, h1, h2, h3, h4, h5, h6⟩ := h
  refine ⟨h0.trans (hr.mono (Nat.zero_le _) (Nat.le_refl _)), fun p hp hlt => ?_, fun p hp => ?_⟩
  · by_cases e : p = a
    · subst e; rw [Nat.min_eq_right (by omega)]; exact hs
    · by_cases e2 : p < a
      · have := dvd_next h1 hp e2
        rw [Nat.min_eq_left (by omega)]
        exact (h3 p hp e2).out hr (.inl this)
      · have := dvd_next hp h1 (by omega)
        omega
  · by_cases e : p ≤ a
    · exact (h5 p hp).moved hr (.inl e) (Nat.le_refl _) hn
    · have := dvd_next hp h1 (by omega)
      exact (h5 p hp).moved hr (.inr (by omega)) (Nat.le_refl _) hn
theorem J3.short {xs0 xs : List KV} {n k a : Nat} (hk : 1 ≤ k) (h : J3 xs0 xs n k a) (hb : n ≤ a + k) : SrtB xs a n := by
  obtain ⟨h0, h1, h2, h3, h4, h5, h6⟩ := h
  by_cases e : a < n
  · have := h4 a (Nat.dvd_trans ⟨2, by omega⟩ h1) (Nat.le_refl _) e
    rwa [Nat.min_eq_right hb] at this
  · intro i j x y g1 g2 g3; omega
theorem J2.end_ {xs0 xs : List KV} {n k : Nat} (h : J2 xs0 xs n k) (hk : n ≤ k) : SrtB xs 0 n := by
  obtain ⟨h0, h1, h2⟩ := h
  by_cases e : 0 < n
  · have := h1 0 ⟨0, rfl⟩ e
    rwa [Nat.min_eq_right (by omega)] at this
  · intro i j x y g1 g2 g3; omega

set_option maxRecDepth 100000 in
set_option maxHeartbeats 32000000 in
theorem stable_any (base g cap : Nat) (xs0 : List KV) (W : World) (hK : Hid (KSt W base g cap xs0)) (hix : Hid (IxB xs0 0 xs0.length)) (hn : xs0.length < 1099511627776) :
    Calls Try.prog 101 #[.slice (some ⟨g, 0, none⟩) xs0.length cap, .int .i64 xs0.length, .func (.func 79) #[] #[]] W (KEnd W base g cap fun ys => ys.Perm xs0 ∧ SrtB ys 0 ys.length) := by
  obtain ⟨n, hnn⟩ : ∃ n, xs0.length = n := ⟨_, rfl⟩
  have HN := Lib.hid hnn
  rw [hnn] at hix hn ⊢
  clear hnn
  go_enter Try.func101, Try.ntmps101
  go_wp2_with fail
  go_loopw [7, 8] (fun av bv wr => ∃ (a : Nat) (xs : List KV), av = .int .i64 a ∧ bv = .int .i64 ((a : Int) + 20) ∧ a ≤ n ∧ Hid (J1 xs0 xs n a) ∧ Hid (KGo W base g cap xs wr)) (fun av _ _ => n - (intOf av).toNat)
  case atStart => exact ⟨0, xs0, rfl, rfl, Nat.zero_le _, Lib.hid (J1.start hix.out), Lib.hid (KGo.start hK.out)⟩
  case round =>
  obtain ⟨a, xs, rfl, rfl, han, HJ, HG⟩ := hrel
  have HL : Hid (xs.length = n) := Lib.hid (HJ.out.1.len.trans HN.out)
  by_cases hb : a + 20 ≤ n
  · have hb' : (a : Int) + 20 ≤ n := by omega
    obtain ⟨b, hbe⟩ : ∃ b : Nat, a + 20 = b := ⟨_, rfl⟩
    have hbi : (a : Int) + 20 = (b : Int) := by omega
    have HBE := Lib.hid hbe
    have hbn : b ≤ n := by omega
    clear hbe
    go_wp2_with fail
    rw [← HL.out]
    refine (ins_any base g cap a b xs _ (Lib.hid HG.out.1) (Lib.hid (HJ.out.ix hix.out hbn)) (by rw [HL.out]; exact hbn) (by omega) (by rw [HL.out]; exact hn)).mono ?_
    rintro e w1 ⟨rfl, ys, ⟨r1, r2⟩, r3, r4⟩
    have HG2 := Lib.hid (HG.out.call r3 r4)
    have HJ2 : Hid (J1 xs0 ys n b) := by
      unfold Hid
      rw [← HBE.out] at r1 r2 hbn ⊢
      exact HJ.out.next hbn (by rw [HL.out]; exact Nat.le_refl _) r1 r2
    clear r1 r2 r3 r4
    rw [HL.out]
    go_wp2_with fail
    exact ⟨⟨b, ys, rfl, rfl, hbn, HJ2, HG2⟩, by simp [intOf]; omega⟩
  · have hb' : ¬ (a : Int) + 20 ≤ n := by omega
    go_wp2_with fail
    rw [← HL.out]
    refine (ins_any base g cap a xs.length xs _ (Lib.hid HG.out.1) (Lib.hid (HJ.out.ix hix.out (by rw [HL.out]; exact Nat.le_refl _))) (Nat.le_refl _) (by rw [HL.out]; exact han) (by rw [HL.out]; exact hn)).mono ?_
    rintro e w1 ⟨rfl, ys, ⟨r1, r2⟩, r3, r4⟩
    have HG2 := Lib.hid (HG.out.call r3 r4)
    have HJ2 : Hid (J2 xs0 ys n 20) := by
      rw [HL.out] at r1 r2
      exact Lib.hid (HJ.out.done (by omega) (by rw [HL.out]; exact Nat.le_refl _) r1 r2)
    clear r1 r2 r3 r4
    rw [HL.out]
    go_wp2_with fail
    go_loopw [6] (fun kv wr => ∃ (k : Nat) (xs : List KV), kv = .int .i64 k ∧ 1 ≤ k ∧ k < 2199023255552 ∧ Hid (J2 xs0 xs n k) ∧ Hid (KGo W base g cap xs wr)) (fun kv _ => 2 * n + 20 - (intOf kv).toNat)
    case atStart => exact ⟨20, ys, rfl, by omega, by omega, HJ2, HG2⟩
    case round =>
    obtain ⟨k, xs, rfl, hk1, hk2, HJ, HG⟩ := hrel
    by_cases hkn : k < n
    · obtain ⟨kk, hkk⟩ : ∃ kk : Nat, 2 * k = kk := ⟨_, rfl⟩
      have hkki : 2 * (k : Int) = (kk : Int) := by omega
      have hkki2 : (k : Int) * 2 = (kk : Int) := by omega
      have HKK := Lib.hid hkk
      clear hkk
      go_wp2_with fail
      go_loopw [7, 8] (fun av bv wr => ∃ (a : Nat) (xs : List KV), av = .int .i64 a ∧ bv = .int .i64 ((a : Int) + (kk : Int)) ∧ a ≤ n ∧ Hid (J3 xs0 xs n k a) ∧ Hid (KGo W base g cap xs wr)) (fun av _ _ => n - (intOf av).toNat)
      case atStart => exact ⟨0, xs, rfl, by go_num, Nat.zero_le _, Lib.hid HJ.out.go, HG⟩
      case round =>
      obtain ⟨a, ys, rfl, rfl, han, HA, HG⟩ := hrel
      have HL : Hid (ys.length = n) := Lib.hid (HA.out.1.len.trans HN.out)
      obtain ⟨m, hm⟩ : ∃ m : Nat, a + k = m := ⟨_, rfl⟩
      have hmi : (a : Int) + (k : Int) = (m : Int) := by omega
      have HM := Lib.hid hm
      obtain ⟨b, hbe⟩ : ∃ b : Nat, a + kk = b := ⟨_, rfl⟩
      have hbi : (a : Int) + (kk : Int) = (b : Int) := by omega
      have HBE : Hid (a + 2 * k = b) := by unfold Hid; rw [HKK.out]; exact hbe
      clear hm hbe
      by_cases hb : b ≤ n
      · have hb' : (b : Int) ≤ n := by omega
        obtain ⟨t1, t2, t3⟩ := HA.out.two hk1 (b := b) (by omega) hb (by omega)
        rw [HM.out] at t1 t2 t3
        have T1 := Lib.hid t1
        have T2 := Lib.hid t2
        have T3 := Lib.hid t3
        clear t1 t2 t3
        go_wp2_with fail
        rw [← HL.out]
        refine (sym_any base g cap (b - a) a m b ys _ (Nat.le_refl _) (Lib.hid HG.out.1) (by omega) (by omega) (by rw [HL.out]; exact hb) (by rw [HL.out]; exact hn) T1 T2 T3).mono ?_
        rintro e w1 ⟨rfl, zs, ⟨r1, r2⟩, r3, r4⟩
        have HG2 := Lib.hid (HG.out.call r3 r4)
        have HJ2 : Hid (J3 xs0 zs n k b) := by
          unfold Hid
          rw [← HBE.out] at r1 r2 hb ⊢
          exact HA.out.next hk1 hb (by rw [HL.out]; exact Nat.le_refl _) r1 r2
        clear r1 r2 r3 r4
        rw [HL.out]
        go_wp2_with fail
        exact ⟨⟨b, zs, rfl, by go_num, hb, HJ2, HG2⟩, by simp [intOf]; omega⟩
      · have hb' : ¬ (b : Int) ≤ n := by omega
        by_cases hmn : m < n
        · have hmn' : (m : Int) < n := by omega
          obtain ⟨t1, t2, t3⟩ := HA.out.two hk1 (b := n) (by omega) (Nat.le_refl _) (by omega)
          rw [HM.out] at t1 t2 t3
          have T1 := Lib.hid t1
          have T2 := Lib.hid t2
          have T3 := Lib.hid t3
          clear t1 t2 t3
          go_wp2_with fail
          have HLI : Hid ((n : Int) = (ys.length : Int)) := by unfold Hid; rw [HL.out]
          rw [← HL.out]
          refine (sym_any base g cap (ys.length - a) a m ys.length ys _ (Nat.le_refl _) (Lib.hid HG.out.1) (by omega) (by rw [HL.out]; exact hmn) (Nat.le_refl _) (by rw [HL.out]; exact hn) T1 (by rw [HL.out]; exact T2) (by rw [HL.out]; exact T3)).mono ?_
          rintro e w1 ⟨rfl, zs, ⟨r1, r2⟩, r3, r4⟩
          have HG2 := Lib.hid (HG.out.call r3 r4)
          rw [HL.out] at r1 r2
          have HJ2 := Lib.hid (HA.out.done hk1 (by omega) (by rw [HL.out]; exact Nat.le_refl _) r1 r2)
          rw [HKK.out] at HJ2
          clear r1 r2 r3 r4
          rw [HL.out]
          go_wp2_with fail
          exact ⟨⟨kk, zs, rfl, by omega, by omega, HJ2, HG2⟩, by simp [intOf]; omega⟩
        · have hmn' : ¬ (m : Int) < n := by omega
          have HJ2 := Lib.hid (HA.out.done hk1 (by omega) (by rw [HL.out]; exact Nat.le_refl _) (Rch.refl _ _ _) (HA.out.short hk1 (by omega)))
          rw [HKK.out] at HJ2
          go_wp2_with fail
          exact ⟨⟨kk, ys, rfl, by omega, by omega, HJ2, HG⟩, by simp [intOf]; omega⟩
    · have hkn' : ¬ (k : Int) < n := by omega
      go_wp2_with fail
      go_end0
      refine ⟨rfl, xs, ⟨HJ.out.1.perm, ?_⟩, HG.out.1, HG.out.2⟩
      have e : xs.length = n := HJ.out.1.len.trans HN.out
      rw [e]; exact HJ.out.end_ (by omega)

set_option maxHeartbeats 4000000 in
theorem sortStable_any (base g cap : Nat) (xs0 : List KV) (W : World) (hK : Hid (KSt W base g cap xs0)) (hix : Hid (IxB xs0 0 xs0.length)) (hn : xs0.length < 1099511627776) :
    Calls Try.prog 78 #[.slice (some ⟨g, 0, none⟩) xs0.length cap, .func (.func 79) #[] #[]] W (KEnd W base g cap fun ys => ys.Perm xs0 ∧ SrtB ys 0 ys.length) := by
  go_enter Try.func78, Try.ntmps78
  go_wp2_with fail
  refine (stable_any base g cap xs0 W hK hix hn).mono ?_
  rintro e w1 ⟨rfl, ys, r1, r2, r3⟩
  go_wp2_with fail
  go_end0
  exact ⟨rfl, ys, r1, r2, r3⟩
end Go.Proofs.Ytdaagdohhnhbdaa
