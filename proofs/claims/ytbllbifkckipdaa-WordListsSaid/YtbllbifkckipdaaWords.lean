/- Contracts of umlautref02.Put and umlautref02.SameLists. Condition: lists of fewer than 2^20 words, each no longer than 2^40. -/
import Derived.Test.YtbllbifkckipdaaWordLaw
import Derived.Test.YtbllbifkckipdaaSame
import Derived.Test.YtbllbifkckipdaaPut
namespace Go.Proofs.Ytbllbifkckipdaa
open Go.RowKit
set_option linter.unusedVariables false

def Wd (A : Option Addr) (l : List Int) (w : World) : Prop := Ints .i32 w A l.length l ∧ l.length ≤ 1099511627776
theorem Wd.lasts : Lasts Wd := fun A l w w' h hb => ⟨h.1.below hb, h.2⟩
theorem Wd.drewN {A : Option Addr} {l : List Int} {w : World} (h : Wd A l w) (q : Nat) : Wd A l (w.drewN q) := h
theorem info23 : (Try.prog.info? 23).map (fun i => (i.zero, i.size, i.bytes)) = some (some (.slice none 0 0), 1, 24) := by kernel_rfl
theorem own_slice {w : World} {base : Nat} {t : TypeId} {v : Value} {n : Nat} {xs : List Value} (h : w.ownsRow base t 1 v n xs) : ∃ A c, v = .slice A n c ∧ n ≤ c ∧ c ≤ maxLen := by
  rcases h.2 with ⟨rfl, rfl⟩ | ⟨g, cap, cur, rfl, _, _, hn, hm, _⟩
  · have := h.1; simp at this; subst this; exact ⟨none, 0, rfl, by omega, by omega⟩
  · exact ⟨_, _, rfl, hn, hm⟩

/-- a call that returns the words l and x -/
def PutW (w : World) (L : List (Item Int)) (x : List Int) (e : Ending) (w' : World) : Prop := ∃ A c M, e = .returned (.slice A M.length c) ∧ Items Wd A M.length M w' ∧ StW (bodies M) ∧ (∀ y, y ∈ bodies M ↔ y ∈ bodies L ∨ y = x) ∧ M.length ≤ L.length + 1 ∧ Below w.heap.size w w'

set_option maxRecDepth 100000 in
set_option maxHeartbeats 8000000 in
theorem rPut_any (A : Option Addr) (n c : Nat) (L : List (Item Int)) (B : Option Addr) (d : Nat) (x : List Int) (w : World) (h : Items Wd A n L w) (hx : Wd B x w) (hs : StW (bodies L)) (hn : n < 1048576) :
    Calls Try.prog 43 #[.slice A n c, .slice B x.length d] w (PutW w L x) := by
  obtain ⟨i0, hi, hz0, hz1, hz2⟩ := info_parts info23
  have HL := Lib.hid h.len
  have HA := Lib.hid h
  have HX := Lib.hid hx
  have HS := Lib.hid hs
  have hxl := hx.2
  clear h hx hs
  go_enter Try.func43, Try.ntmps43
  go_wp2_with fail
  go_loopw [5, 6] (fun lo hi wr => ∃ a b q : Nat, a ≤ b ∧ b ≤ n ∧ lo = .int .i64 a ∧ hi = .int .i64 b ∧ wr = w.drewN q ∧ Hid (∀ (j : Nat) y, j < a → (bodies L)[j]? = some y → ltW y x) ∧ Hid (∀ (j : Nat) y, b ≤ j → (bodies L)[j]? = some y → ¬ ltW y x)) (fun lo hi _ => (intOf hi).toNat - (intOf lo).toNat)
  case atStart => exact ⟨0, n, 0, by omega, by omega, rfl, rfl, rfl, Lib.hid fun i y h => by omega, Lib.hid fun i y h hy => by have := (List.getElem?_eq_some_iff.1 hy).1; rw [bodies_length] at this; have := HL.out; omega⟩
  case round =>
  obtain ⟨a, b, q, hab, hb, rfl, rfl, rfl, hlo, hhi⟩ := hrel
  by_cases hlt : a < b
  · obtain ⟨g, off, ya, yc, y, rfl, hy, hc, hwd⟩ := HA.out.at_ (j := (a + b) / 2) (by omega)
    have hyb : (bodies L)[(a + b) / 2]? = some y := by unfold bodies; rw [List.getElem?_map, hy]; rfl
    have HY := Lib.hid hyb
    have HC := Lib.hid (rCompare_any ya B y.length yc x.length d y x (w.drewN q) (hwd.drewN q).1 (HX.out.drewN q).1 (by have := hwd.2; omega) (by omega))
    clear hy hyb hwd
    have hm0 : (a + b) / 2 < b := by omega
    have hm1 : a ≤ (a + b) / 2 := by omega
    by_cases hcm : ltW y x
    · have hcv : cmpW y x = -1 := hcm
      rw [hcv] at HC
      have HCM := Lib.hid hcm
      clear hcm hcv
      go_wp2_with (go_at_call 23; refine HC.out.out.mono ?_; rintro e w' ⟨rfl, q2, rfl⟩)
      go_roundw
      case rel =>
        refine ⟨(a + b) / 2 + 1, b, q + q2, by omega, by omega, by go_num, rfl, rfl, Lib.hid fun i z hi hz => ?_, hhi⟩
        rcases Nat.lt_or_ge i ((a + b) / 2) with h | h
        · exact ltW_trans (HS.out.lt_of h hz HY.out) HCM.out
        · have : i = (a + b) / 2 := by omega
          subst this
          have := HY.out.symm.trans hz
          simp at this; rw [← this]; exact HCM.out
      case measure => simp [intOf]; omega
    · have hcv : 0 ≤ cmpW y x := by rcases cmpW_range y x with g | g | g <;> first | exact absurd g hcm | omega
      have HCM := Lib.hid hcm
      obtain ⟨cv, hcw⟩ : ∃ cv, cmpW y x = cv := ⟨_, rfl⟩
      rw [hcw] at hcv HC
      clear hcm hcw
      go_wp2_with (go_at_call 23; refine HC.out.out.mono ?_; rintro e w' ⟨rfl, q2, rfl⟩)
      go_roundw
      case rel =>
        refine ⟨a, (a + b) / 2, q + q2, by omega, by omega, rfl, by go_num, rfl, hlo, Lib.hid fun i z hi hz => ?_⟩
        rcases Nat.lt_or_ge ((a + b) / 2) i with h | h
        · intro g
          exact HCM.out (ltW_trans (HS.out.lt_of h HY.out hz) g)
        · have : i = (a + b) / 2 := by omega
          subst this
          have := HY.out.symm.trans hz
          simp at this; rw [← this]; exact HCM.out
      case measure => simp [intOf]; omega
  obtain rfl : a = b := by omega
  clear hlt hab
  have hfin : Hid ((∀ (j : Nat) y, a ≤ j → (bodies L)[j]? = some y → ltW x y) → ∀ (W : World) (v : Value), W.ownsRow w.heap.size 23 1 v (n + 1) (icells (L.take a ++ (B, d, x) :: L.drop a)) → Below w.heap.size w W → PutW w L x (.returned v) W) := by
    refine Lib.hid fun hgt W v hW hbW => ?_
    obtain ⟨A', c', rfl, hnc, hcm⟩ := own_slice hW
    have hlen : (L.take a ++ (B, d, x) :: L.drop a).length = n + 1 := by simp; have := HL.out; omega
    have hbd : bodies (L.take a ++ (B, d, x) :: L.drop a) = (bodies L).take a ++ x :: (bodies L).drop a := by simp [bodies, List.map_take, List.map_drop]
    have hit : AllIt Wd (L.take a ++ (B, d, x) :: L.drop a) W := by
      intro i hi
      rcases List.mem_append.1 hi with hi | hi
      · exact Wd.lasts _ _ _ _ (HA.out.it i (List.mem_of_mem_take hi)) hbW
      · rcases List.mem_cons.1 hi with rfl | hi
        · exact Wd.lasts _ _ _ _ HX.out hbW
        · exact Wd.lasts _ _ _ _ (HA.out.it i (List.mem_of_mem_drop hi)) hbW
    exact ⟨A', c', L.take a ++ (B, d, x) :: L.drop a, by rw [hlen], ⟨by rw [hlen]; exact Sl.of_own hW, hit⟩, by rw [hbd]; exact HS.out.ins hlo.out hgt, fun y => by rw [hbd]; exact mem_ins _ _ _ _, by rw [hlen, HL.out]; exact Nat.le_refl _, hbW⟩
  by_cases han : a < n
  · obtain ⟨g, off, ya, yc, y, rfl, hy, hc, hwd⟩ := HA.out.at_ han
    have hyb : (bodies L)[a]? = some y := by unfold bodies; rw [List.getElem?_map, hy]; rfl
    have HY := Lib.hid hyb
    have HC := Lib.hid (rCompare_any ya B y.length yc x.length d y x (w.drewN q) (hwd.drewN q).1 (HX.out.drewN q).1 (by have := hwd.2; omega) (by omega))
    have hnl := hhi.out a y (Nat.le_refl _) hyb
    clear hy hyb hwd
    by_cases hyx : y = x
    · subst hyx
      have hcv : cmpW y y = 0 := (cmpW_eq y y).2 rfl
      rw [hcv] at HC
      clear hcv
      go_wp2_with (go_at_call 23; refine HC.out.out.mono ?_; rintro e w' ⟨rfl, q2, rfl⟩)
      go_ret
      have hb := below_drewN (Below.refl w.heap.size w) (q + q2)
      refine ⟨some ⟨g, off, none⟩, c, L, by rw [HL.out]; rfl, by rw [HL.out]; exact HA.out.below Wd.lasts hb, HS.out, fun z => ⟨.inl, fun h => h.elim id fun e => by rw [e]; exact List.mem_of_getElem? HY.out⟩, by omega, hb⟩
    · have hgt : ∀ (j : Nat) z, a ≤ j → (bodies L)[j]? = some z → ltW x z := by
        intro j z hj hz
        have h1 : ltW x y := (not_ltW hnl).elim (fun e => absurd e hyx) id
        rcases Nat.lt_or_ge a j with h | h
        · exact ltW_trans h1 (HS.out.lt_of h HY.out hz)
        · have : j = a := by omega
          subst this
          have := HY.out.symm.trans hz
          simp at this; rw [← this]; exact h1
      have HFIN := Lib.hid (hfin.out hgt)
      have hcv : (cmpW y x == 0) = false := by simp only [beq_eq_false_iff_ne, ne_eq, cmpW_eq]; exact hyx
      obtain ⟨cv, hcw⟩ : ∃ cv, cmpW y x = cv := ⟨_, rfl⟩
      rw [hcw] at hcv HC
      have hal : (((a : Nat) : Int) == (n : Int)) = false := by simp; omega
      clear hcw hyx hnl hgt hfin
      go_wp2_with (go_at_call 23; refine HC.out.out.mono ?_; rintro e w' ⟨rfl, q2, rfl⟩)
      clear hcv
      go_loopw [8, 9] (fun v i wr => ∃ k : Nat, k ≤ n ∧ i = .int .i64 k ∧ ((k ≤ a ∧ wr.ownsRow w.heap.size 23 1 v k (icells (L.take k))) ∨ (a < k ∧ wr.ownsRow w.heap.size 23 1 v (k + 1) (icells (L.take a ++ (B, d, x) :: (L.drop a).take (k - a))))) ∧ Below w.heap.size w wr) (fun _ i _ => n - (intOf i).toNat)
      case atStart => exact ⟨0, Nat.zero_le _, rfl, .inl ⟨Nat.zero_le _, World.ownsRow_nil _ _ _ _⟩, below_drewN (Below.refl _ _) _⟩
      case round =>
      obtain ⟨k, hk, rfl, hor, hbel⟩ := hrel
      have HB := Lib.hid hbel
      clear hbel
      by_cases hlt : k < n
      · obtain ⟨g', off', za, zc, z, hA', hz, hcz, hwz⟩ := HA.out.at_ hlt
        cases hA'
        have hdz := (HB.out.cell (lt_of_cell hcz)).trans hcz
        have HZ := Lib.hid hz
        have HLT := Lib.hid (lt_of_cell hcz)
        clear hz hcz hwz
        rcases hor with ⟨hka, ho⟩ | ⟨hka, ho⟩
        · have HO := Lib.hid ho
          obtain ⟨av, cv, hv⟩ := own_shape ho
          subst hv
          clear ho
          by_cases hke : k = a
          · subst hke
            have hee : (((k : Nat) : Int) == (k : Int)) = true := by simp
            go_wp2_with (first
              | (at_builtin
                 refine wpList_push (w0 := wr) rfl (.tmp 52) (.tmp 54) 49 rfl w.heap.size 23 i0 (.slice none 0 0) 1 24 Try.underlying49 hi hz0 hz1 hz2 rfl (by decide) HO.out rfl [.slice B x.length d] _ rfl rfl (one1 rfl) (by omega) (by omega) HB.out.size ?_
                 intro v1 w1 hown1 hg1 _
                 have HB1 := Lib.hid (below_pushed HB.out HO.out (Nat.le_refl _) HB.out.size hg1)
                 have HO1 := Lib.hid hown1
                 have hdz1 := (hg1.cell_far (a := ⟨g, off + k, none⟩) (by have := lt_of_cell hdz; simp; omega) (fun e => by
                   have h1 := (HO.out.lt g e.symm).1
                   have h2 := HLT.out
                   omega)).trans ((World.cell?_alloc_lt wr _ _ (lt_of_cell hdz)).trans hdz)
                 obtain ⟨av1, cv1, hv1⟩ := own_shape hown1
                 subst hv1
                 clear hown1 hg1)
              | (at_builtin
                 go_must (refine wpList_push (w0 := w1) rfl (.tmp 56) (.tmp 61) 49 rfl w.heap.size 23 i0 (.slice none 0 0) 1 24 Try.underlying49 hi hz0 hz1 hz2 rfl (by decide) HO1.out rfl [.slice za z.length zc] _ rfl rfl (one1 rfl) (by omega) (by omega) HB1.out.size ?_)
                 intro v' w2 hown2 hg2 _))
            go_roundw
            case rel => exact ⟨k + 1, by omega, by go_num, .inr ⟨by omega, by rw [Nat.add_sub_cancel_left, drop_cons? HZ.out]; simpa [icells, ival] using hown2⟩, below_pushed HB1.out HO1.out (Nat.le_refl _) HB1.out.size hg2⟩
            case measure => simp [intOf]; omega
          · have hne : (((k : Nat) : Int) == (a : Int)) = false := by simp; omega
            go_wp2_with (at_builtin; go_must (refine wpList_push (w0 := wr) rfl _ _ 49 rfl w.heap.size 23 i0 (.slice none 0 0) 1 24 Try.underlying49 hi hz0 hz1 hz2 rfl (by decide) HO.out rfl [.slice za z.length zc] _ rfl rfl (one1 rfl) (by omega) (by omega) HB.out.size ?_); intro v' w2 hown2 hg2 _)
            go_roundw
            case rel => exact ⟨k + 1, by omega, by go_num, .inl ⟨by omega, by rw [take_snoc? HZ.out, icells_append]; exact hown2⟩, below_pushed HB.out HO.out (Nat.le_refl _) HB.out.size hg2⟩
            case measure => simp [intOf]; omega
        · have HO := Lib.hid ho
          obtain ⟨av, cv, hv⟩ := own_shape ho
          subst hv
          have hne : (((k : Nat) : Int) == (a : Int)) = false := by simp; omega
          clear ho
          go_wp2_with (at_builtin; go_must (refine wpList_push (w0 := wr) rfl _ _ 49 rfl w.heap.size 23 i0 (.slice none 0 0) 1 24 Try.underlying49 hi hz0 hz1 hz2 rfl (by decide) HO.out rfl [.slice za z.length zc] _ rfl rfl (one1 rfl) (by omega) (by omega) HB.out.size ?_); intro v' w2 hown2 hg2 _)
          go_roundw
          case rel =>
            refine ⟨k + 1, by omega, by go_num, .inr ⟨by omega, ?_⟩, below_pushed HB.out HO.out (Nat.le_refl _) HB.out.size hg2⟩
            have e : L.take a ++ (B, d, x) :: (L.drop a).take (k + 1 - a) = (L.take a ++ (B, d, x) :: (L.drop a).take (k - a)) ++ [(za, zc, z)] := by
              have hd : (L.drop a)[k - a]? = some (za, zc, z) := by rw [List.getElem?_drop]; rw [show a + (k - a) = k by omega]; exact HZ.out
              rw [show k + 1 - a = (k - a) + 1 by omega, take_snoc? hd]; simp
            rw [e, icells_append]
            exact hown2
          case measure => simp [intOf]; omega
      · have hd : decide (k < n) = false := by simpa using hlt
        obtain rfl : k = n := by omega
        rcases hor with ⟨hka, ho⟩ | ⟨hka, ho⟩
        · omega
        · have HO := Lib.hid ho
          obtain ⟨av, cv, hv⟩ := own_shape ho
          subst hv
          clear ho
          go_wp2_with fail
          go_ret
          refine HFIN.out wr _ ?_ HB.out
          have e : (L.drop a).take (k - a) = L.drop a := List.take_of_length_le (by rw [List.length_drop, HL.out]; exact Nat.le_refl _)
          have := HO.out
          rwa [e] at this
  · obtain rfl : a = n := by omega
    have hgt : ∀ (j : Nat) z, a ≤ j → (bodies L)[j]? = some z → ltW x z := fun j z hj hz => by
      have := (List.getElem?_eq_some_iff.1 hz).1
      rw [bodies_length, HL.out] at this
      omega
    have HFIN := Lib.hid (hfin.out hgt)
    have haa : decide (a < a) = false := by simp
    have hee : (((a : Nat) : Int) == (a : Int)) = true := by simp
    clear hgt hfin han
    go_wp2_with fail
    go_loopw [8, 9] (fun v i wr => ∃ k : Nat, k ≤ a ∧ i = .int .i64 k ∧ wr.ownsRow w.heap.size 23 1 v k (icells (L.take k)) ∧ Below w.heap.size w wr) (fun _ i _ => a - (intOf i).toNat)
    case atStart => exact ⟨0, Nat.zero_le _, rfl, World.ownsRow_nil _ _ _ _, below_drewN (Below.refl _ _) _⟩
    case round =>
    obtain ⟨k, hk, rfl, ho, hbel⟩ := hrel
    have HB := Lib.hid hbel
    have HO := Lib.hid ho
    obtain ⟨av, cv, hv⟩ := own_shape ho
    subst hv
    clear hbel ho
    by_cases hlt : k < a
    · obtain ⟨g', off', za, zc, z, rfl, hz, hcz, hwz⟩ := HA.out.at_ hlt
      have hdz := (HB.out.cell (lt_of_cell hcz)).trans hcz
      have HZ := Lib.hid hz
      have hne : (((k : Nat) : Int) == (a : Int)) = false := by simp; omega
      clear hz hcz hwz
      go_wp2_with (at_builtin; go_must (refine wpList_push (w0 := wr) rfl _ _ 49 rfl w.heap.size 23 i0 (.slice none 0 0) 1 24 Try.underlying49 hi hz0 hz1 hz2 rfl (by decide) HO.out rfl [.slice za z.length zc] _ rfl rfl (one1 rfl) (by omega) (by omega) HB.out.size ?_); intro v' w2 hown2 hg2 _)
      go_roundw
      case rel => exact ⟨k + 1, by omega, by go_num, by rw [take_snoc? HZ.out, icells_append]; exact hown2, below_pushed HB.out HO.out (Nat.le_refl _) HB.out.size hg2⟩
      case measure => simp [intOf]; omega
    · obtain rfl : k = a := by omega
      go_wp2_with (at_builtin; go_must (refine wpList_push (w0 := wr) rfl _ _ 49 rfl w.heap.size 23 i0 (.slice none 0 0) 1 24 Try.underlying49 hi hz0 hz1 hz2 rfl (by decide) HO.out rfl [.slice B x.length d] _ rfl rfl (one1 rfl) (by omega) (by omega) HB.out.size ?_); intro v' w2 hown2 hg2 _)
      have HB2 := Lib.hid (below_pushed HB.out HO.out (Nat.le_refl _) HB.out.size hg2)
      have HO2 := Lib.hid hown2
      obtain ⟨av2, cv2, hv2⟩ := own_shape hown2
      subst hv2
      clear hown2 hg2
      go_wp2_with fail
      go_ret
      refine HFIN.out w2 _ ?_ HB2.out
      have e : L.drop k = [] := List.drop_of_length_le (by rw [HL.out]; exact Nat.le_refl _)
      rw [e, icells_append]
      exact HO2.out

/-- a callee that draws, inside a region that draws -/
def DrawnAt (P : Program) (f : FuncId) (args : Array Value) (w : World) (v : Value) : Prop := ∀ q, Drawn P f args (w.drewN q) v
theorem DrawnAt.q1 {P : Program} {f : FuncId} {args : Array Value} {w : World} {v : Value} (h : DrawnAt P f args w v) {n : Nat} : Calls P f args (w.drewN n) fun e w'' => e = .returned v ∧ ∃ m, w'' = w.drewN m :=
  (h n).mono fun _ _ ⟨he, m, hm⟩ => ⟨he, n + m, hm.trans (World.drewN_drewN _ _ _)⟩
theorem DrawnAt.q2 {P : Program} {f : FuncId} {args : Array Value} {w : World} {v : Value} (h : DrawnAt P f args w v) {a n : Nat} : Calls P f args (w.drewN (a + n)) fun e w'' => e = .returned v ∧ ∃ m, w'' = w.drewN (a + m) :=
  (h (a + n)).mono fun _ _ ⟨he, m, hm⟩ => ⟨he, n + m, by rw [hm, World.drewN_drewN, Nat.add_assoc]⟩
theorem DrawnAt.q3 {P : Program} {f : FuncId} {args : Array Value} {w : World} {v : Value} (h : DrawnAt P f args w v) {a n : Nat} : Calls P f args (w.drewN (a + n)) fun e w'' => e = .returned v ∧ ∃ m, w'' = (w.drewN a).drewN m :=
  (h (a + n)).mono fun _ _ ⟨he, m, hm⟩ => ⟨he, n + m, by rw [hm, World.drewN_drewN, World.drewN_drewN, Nat.add_assoc]⟩

set_option maxRecDepth 100000 in
set_option maxHeartbeats 8000000 in
theorem SameLists_any (A B : Option Addr) (n c m d : Nat) (L M : List (Item Int)) (w : World) (h : Items Wd A n L w) (h' : Items Wd B m M w) (hn : n < 1099511627776) (hm : m < 1099511627776) :
    Drawn Try.prog 44 #[.slice A n c, .slice B m d] w (.bool (decide (bodies L = bodies M))) := by
  have HL := Lib.hid h.len
  have HM := Lib.hid h'.len
  have HA := Lib.hid h
  have HB := Lib.hid h'
  clear h h'
  unfold Drawn
  by_cases hnm : n = m
  · subst hnm
    go_enter Try.func44, Try.ntmps44
    go_wp2_with fail
    go_loopw [5] (fun i wr => ∃ k q : Nat, wr = w.drewN q ∧ k ≤ n ∧ i = .int .i64 k ∧ Hid ((bodies L).take k = (bodies M).take k)) (fun i _ => n - (intOf i).toNat)
    case atStart => exact ⟨0, 0, rfl, Nat.zero_le _, rfl, rfl⟩
    case round =>
    obtain ⟨k, q, rfl, hk, rfl, hal⟩ := hrel
    by_cases hlt : k < n
    · obtain ⟨b, off, xa, xc, x, rfl, hx, hc1, hw1⟩ := HA.out.at_ hlt
      obtain ⟨b', off', ya, yc, y, rfl, hy, hc2, hw2⟩ := HB.out.at_ hlt
      have hxb : (bodies L)[k]? = some x := by unfold bodies; rw [List.getElem?_map, hx]; rfl
      have hyb : (bodies M)[k]? = some y := by unfold bodies; rw [List.getElem?_map, hy]; rfl
      have HX := Lib.hid hxb
      have HY := Lib.hid hyb
      have HSM : Hid (∀ q, Drawn Try.prog 36 #[.slice xa x.length xc, .slice ya y.length yc] (w.drewN q) (.bool (decide (x = y)))) := Lib.hid fun q => rSame_any xa ya x.length xc y.length yc x y (w.drewN q) (hw1.drewN q).1 (hw2.drewN q).1 (by have := hw1.2; omega) (by have := hw2.2; omega)
      have hk0 : (0 : Int) ≤ (k : Int) := Int.natCast_nonneg _
      have hk1 : (k : Int) < (n : Int) := by omega
      clear hx hy hxb hyb hw1 hw2
      by_cases hxy : x = y
      · have HE := Lib.hid hxy
        have HSM2 : Hid (∀ q, Drawn Try.prog 36 #[.slice xa x.length xc, .slice ya y.length yc] (w.drewN q) (.bool true)) := Lib.hid fun q => (HSM.out q).as (by rw [decide_eq_true hxy])
        clear hxy HSM
        go_wp2_with fail
        go_quiet ((go_at_call 36; (first | exact DrawnAt.q2 HSM2.out | exact DrawnAt.q3 HSM2.out | exact DrawnAt.q1 HSM2.out)))
        go_wp2_with fail
        go_roundw
        case rel => exact ⟨k + 1, _, rfl, by omega, by go_num, by unfold Hid; rw [take_snoc? HX.out, take_snoc? HY.out, hal.out, HE.out]⟩
        case measure => simp [intOf]; omega
      · have HE := Lib.hid hxy
        have HSM2 : Hid (∀ q, Drawn Try.prog 36 #[.slice xa x.length xc, .slice ya y.length yc] (w.drewN q) (.bool false)) := Lib.hid fun q => (HSM.out q).as (by rw [decide_eq_false hxy])
        clear hxy HSM
        go_wp2_with fail
        go_quiet ((go_at_call 36; (first | exact DrawnAt.q2 HSM2.out | exact DrawnAt.q3 HSM2.out | exact DrawnAt.q1 HSM2.out)))
        go_wp2_with fail
        go_ret
        refine ⟨ret_bool ?_, _, World.drewN_drewN _ _ _⟩
        symm
        rw [decide_eq_false_iff_not]
        intro e
        have := HX.out.symm.trans (e ▸ HY.out)
        exact HE.out (by simpa using this)
    · have hlt2 : decide (k < n) = false := by simpa using hlt
      go_wp2_with fail
      go_ret
      refine ⟨ret_bool ?_, _, rfl⟩
      symm
      rw [decide_eq_true_eq]
      have := hal.out
      rwa [List.take_of_length_le (by rw [bodies_length, HL.out]; omega), List.take_of_length_le (by rw [bodies_length, HM.out]; omega)] at this
  · have h1 : ((n : Int) != (m : Int)) = true := by simp; omega
    have HN := Lib.hid hnm
    clear hnm
    go_enter Try.func44, Try.ntmps44
    go_wp2_with fail
    go_ret
    refine ⟨ret_bool ?_, 0, rfl⟩
    symm
    rw [decide_eq_false_iff_not]
    intro e
    have := congrArg List.length e
    rw [bodies_length, bodies_length, HL.out, HM.out] at this
    exact HN.out this
end Go.Proofs.Ytbllbifkckipdaa
