/- umlautlaw05.MintermUnions: the walk. Each set of a family is, within the whole, some blocks together; in whichever order the family's sets stand the blocks are the same. Condition: none beyond the row's own. -/
import Derived.Test.YtdaagdohhnhbdaaUniLaw
import Derived.Test.YtdaagdohhnhbdaaMinRow
import Derived.Deep.RegionHeld3
namespace Go.Proofs.Ytdaagdohhnhbdaa
open Go.RowKit
set_option linter.unusedVariables false
set_option linter.unusedSimpArgs false

theorem bodies_rev (L : List (Item Sp)) : bodies L.reverse = (bodies L).reverse := by unfold bodies; rw [List.map_reverse]
/-- the blocks among the first k that meet s, together -/
def UpU (P : List (List Sp)) (s : List Sp) (k : Nat) (u : List Sp) : Prop := Plain u ∧ ∀ z, Mem u z ↔ ∃ b ∈ P.take k, (∃ y, hasB b y = true ∧ hasB s y = true) ∧ hasB b z = true
theorem UpU.start (P : List (List Sp)) (s : List Sp) : UpU P s 0 [] := ⟨trivial, fun z => by simp [Mem, InS]⟩
theorem UpU.skip {P : List (List Sp)} {s b u : List Sp} {k : Nat} (h : UpU P s k u) (hb : P[k]? = some b) (hm : meetL b s = []) : UpU P s (k + 1) u := by
  refine ⟨h.1, fun z => ?_⟩
  rw [h.2, take_snoc? hb]
  constructor
  · rintro ⟨c, hc, h1⟩; exact ⟨c, by simp [hc], h1⟩
  · rintro ⟨c, hc, ⟨y, hy1, hy2⟩, h1⟩
    rcases List.mem_append.1 hc with hc | hc
    · exact ⟨c, hc, ⟨y, hy1, hy2⟩, h1⟩
    · simp at hc; subst hc
      have := hasB_meet c s y
      rw [hm, hasB_nil, hy1, hy2] at this
      simp at this
theorem UpU.take {P : List (List Sp)} {s b u u' : List Sp} {k : Nat} (h : UpU P s k u) (hb : P[k]? = some b) (hm : meetL b s ≠ []) (hr : Rep u' (fun x => Mem u x ∨ Mem b x)) : UpU P s (k + 1) u' := by
  refine ⟨hr.1, fun z => ?_⟩
  rw [hr.mem, h.2, take_snoc? hb, ← hasB_iff]
  have hk := keyS_in hm (meetL_rep b s).out.1
  rw [hasB_meet, Bool.and_eq_true] at hk
  constructor
  · rintro (⟨c, hc, h1⟩ | h1)
    · exact ⟨c, by simp [hc], h1⟩
    · exact ⟨b, by simp, ⟨_, hk⟩, h1⟩
  · rintro ⟨c, hc, h1, h2⟩
    rcases List.mem_append.1 hc with hc | hc
    · exact .inl ⟨c, hc, h1, h2⟩
    · simp at hc; subst hc; exact .inr h2
theorem UpU.done {r a s u : List Sp} {fam P : List (List Sp)} (h : UpU P s P.length u) (hb : Blocks r fam P) (hs : s ∈ fam) (hr : Rep r (Mem a)) : Rep u (fun x => Mem a x ∧ Mem s x) := by
  refine ⟨h.1, fun z => ?_⟩
  rw [← h.1.mem, h.2, List.take_length, blocks_union hb hs, hasB_iff, hasB_iff, hr.mem]
theorem LL.at_k2 {A : Option Addr} {L : List (Item Sp)} {W : World} (h : LL A L W) {k : Nat} (hk : k < L.length) : ∃ gb off ba bc b, A = some ⟨gb, off, none⟩ ∧ L[k]? = some (ba, bc, b) ∧ (bodies L)[k]? = some b ∧ W.cell? ⟨gb, off + k, none⟩ = some (.slice ba b.length bc) ∧ Lst ba b W := by
  obtain ⟨gb, off, ba, bc, b, hA, hx, hc, hwd⟩ := Items.at_ h hk
  exact ⟨gb, off, ba, bc, b, hA, hx, by unfold bodies; rw [List.getElem?_map, hx]; rfl, hc, hwd⟩

set_option maxRecDepth 100000 in
set_option maxHeartbeats 32000000 in
theorem MintermUnions_walk (A : Option Addr) (n c : Nat) (a : List Sp) (B : Option Addr) (m d : Nat) (L : List Lst3) (w : World)
    (ha : Spans w A n a) (hwa : SpW a) (hna : n ≤ 9223372036854775807) (h : SssIn w B m L) :
    Calls Try.prog 15 #[.slice A n c, .slice B m d] w fun e w' => e = .returned (.bool true) ∧ Below w.heap.size w w' := by
  obtain rfl := ha.len
  have HG := Lib.hid (great05_any B m d L w h)
  by_cases h1 : 30 < a.length
  · have h1' : (30 : Int) < a.length := by omega
    have HK : Hid (St w w (fun W => True)) := Lib.hid (St.start (fun W hW => trivial))
    clear h ha HG h1
    go_enter Try.func15, Try.ntmps15
    go_wp2_with fail
    refine (awake05_st HK).mono ?_
    rintro e w2 ⟨rfl, HK2⟩
    go_wp2_with fail
    go_ret
    exact ⟨rfl, HK2.out.2⟩
  have h1' : ¬ (30 : Int) < a.length := by omega
  rcases hbig : bigL L with _ | _
  case neg.true =>
    rw [hbig] at HG
    have HK : Hid (St w w (fun W => True)) := Lib.hid (St.start (fun W hW => trivial))
    clear h ha hbig h1
    go_enter Try.func15, Try.ntmps15
    go_wp2_with (go_at_call 38; refine HG.out.mono ?_; rintro e w0 ⟨rfl, rfl⟩)
    refine (awake05_st HK).mono ?_
    rintro e w2 ⟨rfl, HK2⟩
    go_wp2_with fail
    go_ret
    exact ⟨rfl, HK2.out.2⟩
  rw [hbig] at HG
  obtain ⟨rfl, hll⟩ := h.ll hbig
  have h30 := (bigL_no hbig).1
  have HK : Hid (St w w (fun W => Lst A a W ∧ LL B L W)) := Lib.hid (St.start (fun W hW => ⟨⟨ha.below hW, hwa, by omega⟩, hll W hW⟩))
  have HREV : Hid (splitL (normL a) (bodies L.reverse) = splitL (normL a) (bodies L)) := Lib.hid (by rw [bodies_rev]; exact splitL_rev (normL_rep a).out.1 _)
  clear h ha hll hbig h1 hna
  go_enter Try.func15, Try.ntmps15
  go_wp2_with (go_at_call 38; refine HG.out.mono ?_; rintro e w0 ⟨rfl, rfl⟩)
  refine (Split_st HK (fun _ h => h.1) (fun _ h => h.2) (by omega) _ _ (normL_rep a)).mono ?_
  rintro e w1 hS
  obtain ⟨O, A1, c1, ev, hol, hO, rfl, HK1⟩ : ∃ O A1 c1 ev, O.length ≤ 1024 ∧ ((ev = (4 : Int) ∧ O = [] ∧ splitL (normL a) (bodies L) = none) ∨ (ev = 0 ∧ splitL (normL a) (bodies L) = some (bodies O))) ∧ e = .returned (.tuple #[.slice A1 O.length c1, .int .i64 ev]) ∧ Hid (St w w1 (fun W => LL A1 O W ∧ Lst A a W ∧ LL B L W)) := by
    rcases hS with ⟨hs, rfl, HK⟩ | ⟨A1, c1, O, hs, hol, rfl, HK⟩
    · exact ⟨[], none, 0, 4, by simp, .inl ⟨rfl, rfl, hs⟩, rfl, Lib.hid (HK.out.add (Below.refl _ _) (fun W hW => Items.nil_ _ _ _))⟩
    · exact ⟨O, A1, c1, 0, hol, .inr ⟨rfl, hs⟩, rfl, HK⟩
  have HO := Lib.hid hO
  have hln : (L.length : Int) - 1 = (L.length : Int) - 1 := rfl
  clear hO hln
  go_wp2_with fail
  go_loopw [7, 8] (fun tv iv wr => ∃ (k : Nat) (z : Int) (At : Option Addr) (ct : Nat), z + k + 1 = L.length ∧ k ≤ L.length ∧ iv = .int .i64 z ∧ tv = .slice At k ct ∧ Hid (wr.ownsRow w1.heap.size 24 1 (.slice At k ct) k (icells (L.reverse.take k))) ∧ Hid (Below w1.heap.size w1 wr)) (fun _ iv _ => (intOf iv + 1).toNat)
  case atStart => exact ⟨0, (L.length : Int) - 1, none, 0, by omega, Nat.zero_le _, rfl, rfl, Lib.hid (World.ownsRow_nil _ _ _ _), Lib.hid (Below.refl _ _)⟩
  case round =>
  obtain ⟨k, z, At, ct, hz, hk, rfl, rfl, HT, HBT⟩ := hrel
  have HS1 := Lib.hid (HK1.out.step HBT.out)
  by_cases hzz : 0 ≤ z
  · obtain ⟨i, rfl⟩ := Int.eq_ofNat_of_zero_le hzz
    have hil : i < L.length := by omega
    obtain ⟨gb, off, ba, bc, b, hB, hx, _, hc, hwd⟩ := HS1.out.now.2.2.at_k2 hil
    have hrk : L.reverse[k]? = some (ba, bc, b) := by
      rw [List.getElem?_reverse (by omega), show L.length - 1 - k = i by omega]; exact hx
    have HRK := Lib.hid hrk
    subst hB
    clear hx hwd hrk
    go_wp2_with (at_builtin; go_must (refine wpList_pushL rfl _ _ rfl HT.out rfl (.slice ba b.length bc) rfl (by first | rfl | (simp; rfl) | simp) (by omega) HBT.out.size ?_); intro A5 c5 w5 HO5 HG5 HAT5)
    have HT5 : Hid (w5.ownsRow w1.heap.size 24 1 (.slice A5 (k + 1) c5) (k + 1) (icells (L.reverse.take (k + 1)))) := by
      unfold Hid
      rw [take_snoc? HRK.out, icells_append]; exact HO5.out
    have HB5 := Lib.hid (below_pushed HBT.out HT.out (Nat.le_refl _) HBT.out.size HG5.out)
    exact ⟨⟨k + 1, (i : Int) - 1, A5, c5, by omega, by omega, rfl, rfl, HT5, HB5⟩, by first | (simp [intOf]; done) | (simp [intOf]; omega)⟩
  have hzn : ¬ 0 ≤ z := hzz
  obtain rfl : k = L.length := by omega
  have HKT : Hid (St w wr (fun W => LL At L.reverse W ∧ LL A1 O W ∧ Lst A a W ∧ LL B L W)) := by
    refine Lib.hid (HS1.out.add (Below.refl _ _) (G := fun W => LL At L.reverse W) (fun W hW => ?_))
    have h0 := HT.out
    rw [show L.length = L.reverse.length from List.length_reverse.symm, List.take_length] at h0
    exact LL.below ⟨Sl.of_own h0, fun i hi => HS1.out.now.2.2.it i (List.mem_reverse.1 hi)⟩ hW
  have hlr : L.reverse.length = L.length := List.length_reverse
  clear HT hz
  go_wp2_with fail
  have HSP := Split_st HKT (fun _ h => h.2.2.1) (fun _ h => h.1) (by rw [hlr]; omega) c ct (normL_rep a)
  rw [hlr] at HSP
  refine HSP.mono ?_
  rintro e w2 hS
  clear HSP
  have HE : Hid (∃ M A2 c2, M.length ≤ 1024 ∧ bodies M = bodies O ∧ e = .returned (.tuple #[.slice A2 M.length c2, .int .i64 ev]) ∧ St w w2 (fun W => LL A2 M W ∧ LL A1 O W ∧ Lst A a W ∧ LL B L W)) := by
    rcases hS with ⟨hs, he, HK⟩ | ⟨A2, c2, M, hs, hml, he, HK⟩
    · rw [HREV.out] at hs
      rcases HO.out with ⟨h1, h2, h3⟩ | ⟨h1, h2⟩
      · subst h1; subst h2
        exact ⟨[], none, 0, by simp, rfl, he, HK.out.weaken fun W h => ⟨Items.nil_ _ _ _, h.2⟩⟩
      · rw [hs] at h2; cases h2
    · rw [HREV.out] at hs
      rcases HO.out with ⟨h1, h2, h3⟩ | ⟨h1, h2⟩
      · rw [hs] at h3; cases h3
      · subst h1
        rw [h2] at hs
        injection hs with hs
        exact ⟨M, A2, c2, hml, hs.symm, he, HK.out.weaken fun W h => ⟨h.1, h.2.2⟩⟩
  obtain ⟨M, A2, c2, hml, hbm, rfl, hK2⟩ := HE.out
  have HK2 := Lib.hid hK2
  have HBM := Lib.hid hbm
  have hev : (ev != ev) = false := by simp
  clear hS HE hbm hK2
  go_wp2_with fail
  refine (LSame_st HK2 (fun _ h => h.2.1) (fun _ h => h.1) (by omega) (by omega) _ _ (v := true) (by rw [HBM.out]; simp)).mono ?_
  rintro e w3 ⟨rfl, HK3⟩
  go_wp2_with fail
  rcases HO.out with ⟨rfl, h2, h3⟩ | ⟨rfl, hs⟩
  · go_loopw [11] (fun iv wr => iv = .int .i64 0 ∧ Hid (St w wr (fun W => LL A2 M W ∧ LL A1 O W ∧ Lst A a W ∧ LL B L W))) (fun _ _ => 0)
    case atStart => exact ⟨rfl, HK3⟩
    case round =>
    obtain ⟨rfl, HK⟩ := hrel
    by_cases hL : 0 < L.length
    · have hL' : (0 : Int) < L.length := by omega
      go_wp2_with fail
      refine (awake05_st HK).mono ?_
      rintro e w4 ⟨rfl, HK4⟩
      go_wp2_with fail
      go_ret
      exact ⟨rfl, HK4.out.2⟩
    · have hL' : ¬ (0 : Int) < L.length := by omega
      go_wp2_with fail
      refine (awake05_st HK).mono ?_
      rintro e w4 ⟨rfl, HK4⟩
      go_wp2_with fail
      go_ret
      exact ⟨rfl, HK4.out.2⟩
  have HBL := Lib.hid (splitL_blocks hs)
  clear hs hev
  go_loopw [11] (fun iv wr => ∃ k : Nat, k ≤ L.length ∧ iv = .int .i64 k ∧ Hid (St w wr (fun W => LL A2 M W ∧ LL A1 O W ∧ Lst A a W ∧ LL B L W))) (fun iv _ => L.length - (intOf iv).toNat)
  case atStart => exact ⟨0, Nat.zero_le _, rfl, HK3⟩
  case round =>
  obtain ⟨k, hk, rfl, HK⟩ := hrel
  by_cases hlt : k < L.length
  · obtain ⟨gs, offs, sa, sc, s, hB, -, hbk, hcs, hws⟩ := HK.out.now.2.2.2.at_k2 hlt
    have HBK := Lib.hid hbk
    have HKS := Lib.hid (HK.out.add (Below.refl _ _) (G := fun W => Lst sa s W ∧ W.cell? ⟨gs, offs + k, none⟩ = some (.slice sa s.length sc)) (fun W hW => ⟨hws.below hW, (hW.cell (lt_of_cell hcs)).trans hcs⟩))
    subst hB
    clear hbk hws
    go_wp2_with fail
    go_loopw [12, 13] (fun uv jv wr => ∃ (j : Nat) (u : List Sp) (Au : Option Addr) (cu : Nat), j ≤ O.length ∧ jv = .int .i64 j ∧ uv = .slice Au u.length cu ∧ Hid (UpU (bodies O) s j u) ∧ Hid (St w wr (fun W => Lst Au u W ∧ (Lst sa s W ∧ W.cell? ⟨gs, offs + k, none⟩ = some (.slice sa s.length sc)) ∧ LL A2 M W ∧ LL A1 O W ∧ Lst A a W ∧ LL (some ⟨gs, offs, none⟩) L W))) (fun _ jv _ => O.length - (intOf jv).toNat)
    case atStart => exact ⟨0, [], none, 0, Nat.zero_le _, rfl, rfl, Lib.hid (UpU.start _ _), Lib.hid (HKS.out.add (Below.refl _ _) (fun W hW => ⟨Sl.nil_ _ _ _, fun p hp => (by cases hp), by simp⟩))⟩
    case round =>
    obtain ⟨j, u, Au, cu, hj, rfl, rfl, HU, HKU⟩ := hrel
    by_cases hjl : j < O.length
    · obtain ⟨gb, offb, ba, bc, b, hA1, -, hbj, hcb, hwb⟩ := HKU.out.now.2.2.2.1.at_k2 hjl
      have HBJ := Lib.hid hbj
      have hcs2 := HKU.out.now.2.1.2
      have HKB := Lib.hid (HKU.out.add (Below.refl _ _) (G := fun W => Lst ba b W ∧ W.cell? ⟨gb, offb + j, none⟩ = some (.slice ba b.length bc)) (fun W hW => ⟨hwb.below hW, (hW.cell (lt_of_cell hcb)).trans hcb⟩))
      obtain ⟨v, hv⟩ : ∃ v, (!decide (meetL b s = [])) = v := ⟨_, rfl⟩
      have HV := Lib.hid hv
      subst hA1
      clear hbj hwb hv
      go_wp2_with fail
      have HK9 := St.hdrewN HKB 1
      go_region_held3 (fun W => W.cell? ⟨gb, offb + j, none⟩ = some (.slice ba b.length bc) ∧ W.cell? ⟨gs, offs + k, none⟩ = some (.slice sa s.length sc))
        (first | exact ⟨HK9.out.now.1.2, HK9.out.now.2.2.1.2⟩ | go_keep)
        ((go_at_call 50; refine (Meets_st HK9 (fun _ h => h.1.1) (fun _ h => h.2.2.1.1) _ _ (meetL_rep b s) HV.out).mono ?_; rintro e w3 ⟨rfl, HK9⟩))
      cases v
      · have hm : meetL b s = [] := by have := HV.out; simpa using this
        have HU2 := Lib.hid (HU.out.skip HBJ.out hm)
        clear hm
        go_wp2_with fail
        exact ⟨⟨j + 1, u, Au, cu, by omega, by go_num, rfl, HU2, Lib.hid (HK9.out.weaken fun W h => h.2)⟩, by simp [intOf]; omega⟩
      · have hm : meetL b s ≠ [] := by have := HV.out; simpa using this
        obtain ⟨u2, Ru2⟩ := rep_union u b
        have HU2 := Lib.hid (HU.out.take HBJ.out hm Ru2.out)
        have hcb2 := HK9.out.now.1.2
        clear hm
        go_wp2_with fail
        refine (Union_st HK9 (fun _ h => h.2.1) (fun _ h => h.1.1) _ _ Ru2).mono ?_
        rintro e w4 ⟨A4, c4, rfl, HK10⟩
        clear hcb2
        go_wp2_with fail
        exact ⟨⟨j + 1, u2, A4, c4, by omega, by go_num, rfl, HU2, Lib.hid (HK10.out.weaken fun W h => ⟨h.1, h.2.2.2⟩)⟩, by simp [intOf]; omega⟩
    · obtain rfl : j = O.length := by omega
      have hd : decide (O.length < O.length) = false := by simp
      have RU : Hid (Rep u (fun x => Mem a x ∧ Mem s x)) := Lib.hid (UpU.done (by rw [bodies_length]; exact HU.out) HBL.out (List.mem_of_getElem? HBK.out) (normL_rep a).out)
      have hcs2 := HKU.out.now.2.1.2
      go_wp2_with fail
      refine (Meet_st HKU (fun _ h => h.2.2.2.2.1) (fun _ h => h.2.1.1) _ _ RU).mono ?_
      rintro e w4 ⟨A4, c4, rfl, HK4⟩
      clear hcs2
      go_wp2_with fail
      refine (Same_st HK4 (fun _ h => h.2.1) (fun _ h => h.1) _ _ (decide_eq_true rfl)).mono ?_
      rintro e w5 ⟨rfl, HK5⟩
      go_wp2_with fail
      exact ⟨⟨k + 1, by omega, by go_num, Lib.hid (HK5.out.weaken fun W h => h.2.2.2)⟩, by simp [intOf]; omega⟩
  · obtain rfl : k = L.length := by omega
    have hd : decide (L.length < L.length) = false := by simp
    go_wp2_with fail
    refine (awake05_st HK).mono ?_
    rintro e w4 ⟨rfl, HK4⟩
    go_wp2_with fail
    go_ret
    exact ⟨rfl, HK4.out.2⟩
end Go.Proofs.Ytdaagdohhnhbdaa
