/- umlautlaw05.MintermTells: the walk. Two numbers of a set are in one block just if the same sets of the family have them; each is in one block at most, and in one just if it is in the set. Condition: none beyond the row's own. -/
import Derived.Test.YtdaagdohhnhbdaaSplitLaw
import Derived.Test.YtdaagdohhnhbdaaMinRow
import Derived.Deep.RegionHeld3
import Derived.Deep.RegionWith
namespace Go.Proofs.Ytdaagdohhnhbdaa
open Go.RowKit
set_option linter.unusedVariables false
set_option linter.unusedSimpArgs false

theorem cntX_take {P : List (List Sp)} {k : Nat} {b : List Sp} (h : P[k]? = some b) (x : Int) : cntX (P.take (k + 1)) x = cntX (P.take k) x + if hasB b x then 1 else 0 := by
  rw [take_snoc? h, cntX_append, cntX_one]
theorem tgL_take {P : List (List Sp)} {k : Nat} {b : List Sp} (h : P[k]? = some b) (x y : Int) : tgL (P.take (k + 1)) x y = if hasB b x then hasB b y else tgL (P.take k) x y := by
  rw [take_snoc? h, tgL_snoc]
theorem alikeB_take {P : List (List Sp)} {k : Nat} {b : List Sp} (h : P[k]? = some b) (x y : Int) : alikeB (P.take (k + 1)) x y = (alikeB (P.take k) x y && (hasB b x == hasB b y)) := by
  rw [take_snoc? h, alikeB_snoc]
theorem LL.at_k {A : Option Addr} {L : List (Item Sp)} {W : World} (h : LL A L W) {k : Nat} (hk : k < L.length) : ∃ gb off ba bc b, A = some ⟨gb, off, none⟩ ∧ (bodies L)[k]? = some b ∧ W.cell? ⟨gb, off + k, none⟩ = some (.slice ba b.length bc) ∧ Lst ba b W := by
  obtain ⟨gb, off, ba, bc, b, hA, hx, hc, hwd⟩ := Items.at_ h hk
  exact ⟨gb, off, ba, bc, b, hA, by unfold bodies; rw [List.getElem?_map, hx]; rfl, hc, hwd⟩

section
variable {w0 w : World} {F : World → Prop} {A : Option Addr} {L : List (Item Sp)}
end

set_option maxRecDepth 100000 in
set_option maxHeartbeats 32000000 in
theorem MintermTells_walk (A : Option Addr) (n c : Nat) (a : List Sp) (B : Option Addr) (m d : Nat) (L : List Lst3) (x y : Int) (w : World)
    (ha : Spans w A n a) (hwa : SpW a) (hna : n ≤ 9223372036854775807) (h : SssIn w B m L) (wx : (Lit.int .i64 x).wf = true) (wy : (Lit.int .i64 y).wf = true) :
    Calls Try.prog 11 #[.slice A n c, .slice B m d, .int .i64 x, .int .i64 y] w fun e w' => e = .returned (.bool true) ∧ Below w.heap.size w w' := by
  obtain rfl := ha.len
  have HG := Lib.hid (great05_any B m d L w h)
  clear wx wy
  by_cases h1 : 30 < a.length
  · have h1' : (30 : Int) < a.length := by omega
    have HK : Hid (St w w (fun W => True)) := Lib.hid (St.start (fun W hW => trivial))
    clear h ha HG h1
    go_enter Try.func11, Try.ntmps11
    go_wp2_with fail
    refine (awake05_st HK).mono ?_
    rintro e w2 ⟨rfl, HK2⟩
    go_wp2_with fail
    go_ret
    exact ⟨rfl, HK2.out.2⟩
  have h1' : ¬ (30 : Int) < a.length := by omega
  rcases hbig : bigL L with _ | _
  case neg.true =>
    rw [hbig] at HG
    have HK : Hid (St w w (fun W => True)) := Lib.hid (St.start (fun W hW => trivial))
    clear h ha hbig h1
    go_enter Try.func11, Try.ntmps11
    go_wp2_with (go_at_call 38; refine HG.out.mono ?_; rintro e w0 ⟨rfl, rfl⟩)
    refine (awake05_st HK).mono ?_
    rintro e w2 ⟨rfl, HK2⟩
    go_wp2_with fail
    go_ret
    exact ⟨rfl, HK2.out.2⟩
  rw [hbig] at HG
  obtain ⟨rfl, hll⟩ := h.ll hbig
  have h30 := (bigL_no hbig).1
  have HK : Hid (St w w (fun W => Lst A a W ∧ LL B L W)) := Lib.hid (St.start (fun W hW => ⟨⟨ha.below hW, hwa, by omega⟩, hll W hW⟩))
  have HXA : Hid (hasB (normL a) x = hasB a x) := by
    unfold Hid
    rw [Bool.eq_iff_iff, hasB_iff, hasB_iff, (normL_rep a).out.mem]
  clear h ha hll hbig h1 hna
  go_enter Try.func11, Try.ntmps11
  go_wp2_with (go_at_call 38; refine HG.out.mono ?_; rintro e w0 ⟨rfl, rfl⟩)
  refine (Split_st HK (fun _ h => h.1) (fun _ h => h.2) (by omega) _ _ (normL_rep a)).mono ?_
  rintro e w1 hS
  rcases hS with ⟨hs, rfl, HK⟩ | ⟨A1, c1, O, hs, hol, rfl, HK⟩
  · clear hs
    go_wp2_with fail
    refine (awake05_st HK).mono ?_
    rintro e w2 ⟨rfl, HK2⟩
    go_wp2_with fail
    go_ret
    exact ⟨rfl, HK2.out.2⟩
  have HBL := Lib.hid (splitL_blocks hs)
  clear hs
  go_wp2_with fail
  go_loopw [13, 14] (fun av iv wr => ∃ k : Nat, k ≤ L.length ∧ iv = .int .i64 k ∧ av = .bool (alikeB ((bodies L).take k) x y) ∧ Hid (St w wr (fun W => LL A1 O W ∧ Lst A a W ∧ LL B L W))) (fun _ iv _ => L.length - (intOf iv).toNat)
  case atStart => exact ⟨0, Nat.zero_le _, rfl, rfl, HK⟩
  case round =>
  obtain ⟨k, hk, rfl, rfl, HK⟩ := hrel
  by_cases hlt : k < L.length
  · obtain ⟨gb, off, sa, sc, s, hB, hbk, hc, hwd⟩ := HK.out.now.2.2.at_k hlt
    have HN := Lib.hid (alikeB_take hbk x y)
    obtain ⟨bx, hbx⟩ : ∃ b, hasB s x = b := ⟨_, rfl⟩
    obtain ⟨by_, hby⟩ : ∃ b, hasB s y = b := ⟨_, rfl⟩
    rw [hbx, hby] at HN
    have HX := Lib.hid hbx
    have HY := Lib.hid hby
    have HK2 := Lib.hid (HK.out.add (Below.refl _ _) (G := fun W => Lst sa s W ∧ W.cell? ⟨gb, off + k, none⟩ = some (.slice sa s.length sc)) (fun W hW => ⟨hwd.below hW, (hW.cell (lt_of_cell hc)).trans hc⟩))
    subst hB
    clear hbk hwd hbx hby
    rcases hal : alikeB ((bodies L).take k) x y with _ | _
    · rw [hal] at HN
      go_wp2_with (go_quiet (fail))
      exact ⟨⟨k + 1, by omega, by go_num, by rw [HN.out]; rfl, St.hdrewN HK _⟩, by simp [intOf]; omega⟩
    · rw [hal] at HN
      have HN2 : Hid (alikeB ((bodies L).take (k + 1)) x y = (bx == by_)) := by unfold Hid; rw [HN.out]; rfl
      go_wp2_with fail
      have HK3 := St.hdrewN HK2 1
      go_region_held3 (fun W => W.cell? ⟨gb, off + k, none⟩ = some (.slice sa s.length sc))
        (first | exact HK3.out.now.1.2 | go_keep)
        ((first
          | (go_at_call_of 36 (Value.int .i64 x); refine (Has_st HK3 (fun _ h => h.1.1) _ x HX.out).mono ?_; rintro e w3 ⟨rfl, HK3⟩)
          | (go_at_call_of 36 (Value.int .i64 y); refine (Has_st HK3 (fun _ h => h.1.1) _ y HY.out).mono ?_; rintro e w3 ⟨rfl, HK3⟩)))
      go_wp2_with fail
      exact ⟨⟨k + 1, by omega, by go_num, by rw [HN2.out], Lib.hid (HK3.out.weaken fun W h => h.2)⟩, by simp [intOf]; omega⟩
  · obtain rfl : k = L.length := by omega
    have hd : decide (L.length < L.length) = false := by simp
    obtain ⟨al, hal⟩ : ∃ b, alikeB (bodies L) x y = b := ⟨_, rfl⟩
    have HAL := Lib.hid hal
    have e0 : (bodies L).take L.length = bodies L := by rw [← bodies_length (L := L), List.take_length]
    rw [e0, hal]
    clear hal e0
    go_wp2_with fail
    go_loopw [11, 12, 15, 16] (fun nv tv gv iv wr => ∃ k : Nat, k ≤ O.length ∧ iv = .int .i64 k ∧ nv = .int .i64 (cntX ((bodies O).take k) x) ∧ tv = .int .i64 (cntX ((bodies O).take k) y) ∧ gv = .bool (tgL ((bodies O).take k) x y) ∧ Hid (St w wr (fun W => LL A1 O W ∧ Lst A a W ∧ LL B L W))) (fun _ _ _ iv _ => O.length - (intOf iv).toNat)
    case atStart => exact ⟨0, Nat.zero_le _, rfl, rfl, rfl, rfl, HK⟩
    case round =>
    obtain ⟨k, hk, rfl, rfl, rfl, rfl, HK⟩ := hrel
    by_cases hlt : k < O.length
    · obtain ⟨gb, off, sa, sc, s, hB, hbk, hc, hwd⟩ := HK.out.now.1.at_k hlt
      have HCX := Lib.hid (cntX_take hbk x)
      have HCY := Lib.hid (cntX_take hbk y)
      have HTG := Lib.hid (tgL_take hbk x y)
      have hcx1 : cntX ((bodies O).take k) x ≤ 1024 := by
        have h1 : cntX ((bodies O).take k) x ≤ ((bodies O).take k).length := List.countP_le_length
        have h2 : ((bodies O).take k).length ≤ k := by simp; omega
        omega
      have hcy1 : cntX ((bodies O).take k) y ≤ 1024 := by
        have h1 : cntX ((bodies O).take k) y ≤ ((bodies O).take k).length := List.countP_le_length
        have h2 : ((bodies O).take k).length ≤ k := by simp; omega
        omega
      obtain ⟨cx, hcx⟩ : ∃ n, cntX ((bodies O).take k) x = n := ⟨_, rfl⟩
      obtain ⟨cy, hcy⟩ : ∃ n, cntX ((bodies O).take k) y = n := ⟨_, rfl⟩
      obtain ⟨tg, htg⟩ : ∃ n, tgL ((bodies O).take k) x y = n := ⟨_, rfl⟩
      have HK2 := Lib.hid (HK.out.add (Below.refl _ _) (G := fun W => Lst sa s W ∧ W.cell? ⟨gb, off + k, none⟩ = some (.slice sa s.length sc)) (fun W hW => ⟨hwd.below hW, (hW.cell (lt_of_cell hc)).trans hc⟩))
      rw [hcx] at HCX hcx1
      rw [hcy] at HCY hcy1
      rw [htg] at HTG
      rw [hcx, hcy, htg]
      subst hB
      clear hbk hwd hcx hcy htg
      rcases hbx : hasB s x with _ | _
      · rcases hby : hasB s y with _ | _
        all_goals
          rw [hbx] at HCX HTG
          rw [hby] at HCY
          have HX := Lib.hid hbx
          have HY := Lib.hid hby
          clear hbx hby
          go_wp2_with fail
          refine (Has_st HK2 (fun _ h => h.1.1) _ x HX.out).mono ?_
          rintro e w3 ⟨rfl, HK3⟩
          have hc3 := HK3.out.now.1.2
          go_wp2_with fail
          refine (Has_st HK3 (fun _ h => h.1.1) _ y HY.out).mono ?_
          rintro e w4 ⟨rfl, HK4⟩
          clear hc3
          go_wp2_with fail
          exact ⟨⟨k + 1, by omega, by go_num, by rw [HCX.out]; first | rfl | (simp; done) | (push_cast; simp), by rw [HCY.out]; first | rfl | (simp; done) | (push_cast; simp), by rw [HTG.out]; rfl, Lib.hid (HK4.out.weaken fun W h => h.2)⟩, by simp [intOf]; omega⟩
      · rcases hby : hasB s y with _ | _
        all_goals
          rw [hbx] at HCX HTG
          rw [hby] at HCY HTG
          have HX := Lib.hid hbx
          have HY := Lib.hid hby
          clear hbx hby
          go_wp2_with fail
          refine (Has_st HK2 (fun _ h => h.1.1) _ x HX.out).mono ?_
          rintro e w3 ⟨rfl, HK3⟩
          have hc3 := HK3.out.now.1.2
          go_wp2_with fail
          refine (Has_st HK3 (fun _ h => h.1.1) _ y HY.out).mono ?_
          rintro e w4 ⟨rfl, HK4⟩
          clear hc3
          have hc4 := HK4.out.now.1.2
          go_wp2_with fail
          refine (Has_st HK4 (fun _ h => h.1.1) _ y HY.out).mono ?_
          rintro e w5 ⟨rfl, HK5⟩
          clear hc4
          go_wp2_with fail
          exact ⟨⟨k + 1, by omega, by go_num, by rw [HCX.out]; first | rfl | (simp; done) | (push_cast; simp), by rw [HCY.out]; first | rfl | (simp; done) | (push_cast; simp), by rw [HTG.out]; rfl, Lib.hid (HK5.out.weaken fun W h => h.2)⟩, by simp [intOf]; omega⟩
    · obtain rfl : k = O.length := by omega
      have hd : decide (O.length < O.length) = false := by simp
      have e0 : (bodies O).take O.length = bodies O := by rw [← bodies_length (L := O), List.take_length]
      rw [e0]
      obtain ⟨t1, t2, t3, t4⟩ := tells HBL.out x y
      rw [HXA.out] at t3
      rw [HAL.out] at t4
      obtain ⟨cx, hcx⟩ : ∃ n, cntX (bodies O) x = n := ⟨_, rfl⟩
      obtain ⟨cy, hcy⟩ : ∃ n, cntX (bodies O) y = n := ⟨_, rfl⟩
      obtain ⟨tg, htg⟩ : ∃ n, tgL (bodies O) x y = n := ⟨_, rfl⟩
      rw [hcx] at t1 t3 t4
      rw [hcy] at t2 t4
      rw [htg] at t4
      rw [hcx, hcy, htg]
      clear e0 hcx hcy htg
      have hx2 : cx = 0 ∨ cx = 1 := by omega
      have hy2 : cy = 0 ∨ cy = 1 := by omega
      rcases hx2 with rfl | rfl
      · have HX : Hid (hasB a x = false) := by
          unfold Hid
          rw [← Bool.not_eq_true]
          intro h
          have := t3.2 h
          omega
        clear t1 t2 t3 t4
        rcases hy2 with rfl | rfl
        all_goals
          go_wp2_with fail
          refine (Has_st HK (fun _ h => h.2.1) _ x HX.out).mono ?_
          rintro e w3 ⟨rfl, HK3⟩
          go_wp2_with fail
          refine (awake05_st HK3).mono ?_
          rintro e w4 ⟨rfl, HK4⟩
          go_wp2_with fail
          go_ret
          exact ⟨rfl, HK4.out.2⟩
      · have HX : Hid (hasB a x = true) := Lib.hid (t3.1 rfl)
        clear t1 t2 t3
        rcases hy2 with rfl | rfl
        · clear t4
          go_wp2_with fail
          refine (Has_st HK (fun _ h => h.2.1) _ x HX.out).mono ?_
          rintro e w3 ⟨rfl, HK3⟩
          go_wp2_with fail
          refine (awake05_st HK3).mono ?_
          rintro e w4 ⟨rfl, HK4⟩
          go_wp2_with fail
          go_ret
          exact ⟨rfl, HK4.out.2⟩
        · obtain rfl := t4 (by omega) (by omega)
          clear t4
          have htt : (tg == tg) = true := by simp
          go_wp2_with fail
          refine (Has_st HK (fun _ h => h.2.1) _ x HX.out).mono ?_
          rintro e w3 ⟨rfl, HK3⟩
          go_wp2_with fail
          refine (awake05_st HK3).mono ?_
          rintro e w4 ⟨rfl, HK4⟩
          go_wp2_with fail
          go_ret
          exact ⟨rfl, HK4.out.2⟩
end Go.Proofs.Ytdaagdohhnhbdaa
