/- umlautlaw19.DriveChunks: the call returns true. Condition: the table, the bytes and the cuts are known. -/
import Derived.Test.YtlmkokeapbleoaaGreatM20
import Derived.Test.YtlmkokeapbleoaaGreatM10
import Derived.Test.YtlmkokeapbleoaaGreatM14
namespace Go.Proofs.YtlmkokeapbleoaaGreat
open Go.RowKit Go.Shelf
set_option linter.unusedVariables false
set_option linter.unusedSimpArgs false
theorem ops_one {V : World} {n : Nat} {o : OpI} {t : TypeId} {fr : Nat × Nat} (h : V.heap[n]? = some (.cells #[.slice o.a o.b.length o.c, .bool o.cl] t fr)) (hb : BytesAt o.a o.b V) : OpsAt (some ⟨n, 0, none⟩) [o] V :=
  ⟨⟨rfl, fun _ => ⟨_, _, rfl, fun j u hu => by simp only [World.cell?, h]; simpa [opC] using hu⟩⟩, fun x hx => by rw [List.mem_singleton] at hx; subst hx; exact hb, by simp⟩
def rejE (r : Bool) : Int := if r then 7 else 0
theorem wrS_open {T : TabL} {sc : Drv.S} {b : List Int} (h : sc.rej = false) : wrS T (sc, false) b = (((Drv.go (drvM T) sc b).1, false), (Drv.go (drvM T) sc b).2, rejE (Drv.go (drvM T) sc b).1.rej) := by
  unfold wrS
  rw [if_neg (by unfold errI; simp [h])]; rfl
theorem cut_ex (x : Int) (n a : Nat) (ha : a ≤ n) (hn : n ≤ 4096) : ∃ tt : Nat, wrap64 ((a : Int) + wrap64 ((IntKind.u64.wrap x).tmod ((n : Int) - (a : Int) + 1))) = (tt : Int) ∧ a ≤ tt ∧ tt ≤ n := by
  obtain ⟨u, hu, h0⟩ : ∃ u, IntKind.u64.wrap x = u ∧ 0 ≤ u := ⟨_, rfl, by simp [IntKind.wrap, IntKind.signed, IntKind.bits]; omega⟩
  have e1 : ((n : Int) - (a : Int) + 1) = ((n - a + 1 : Nat) : Int) := by omega
  rw [hu, e1]
  have h1 := Int.tmod_nonneg ((n - a + 1 : Nat) : Int) h0
  have h2 := Int.tmod_lt_of_pos u (b := ((n - a + 1 : Nat) : Int)) (by omega)
  obtain ⟨k, hk⟩ := Int.eq_ofNat_of_zero_le h1
  rw [hk] at h2 ⊢
  refine ⟨a + k, ?_, by omega, by omega⟩
  unfold wrap64
  omega
structure ChI (D : Nat → Prop) (base db dc : Nat) (cs1 cs2 : Array Value) (T1 T2 : TabI) (s1 : DrvS) (h1 : Option Addr) (c1 : Nat) (sc : Drv.S) (ha : Option Addr) (hc : Nat) (G : World → Prop) (A : Option Addr) (c : Nat) (o : List Int) (W wr : World) : Prop where
  one : DrvK (Dx D A) db cs1 T1 s1 h1 c1 wr
  two : DrvK (Dx D A) dc cs2 T2 (sc, false) ha hc wr
  dep : ∀ V, BelD (Dx D A) wr V → G V
  row : wr.ownsRow base 5 1 (.slice A o.length c) o.length (o.map (Value.int .u8))
  bel : Below W.heap.size W wr
  sz : base ≤ wr.heap.size
section
variable {D : Nat → Prop} {base db dc : Nat} {cs1 cs2 : Array Value} {T1 T2 : TabI} {s1 : DrvS} {h1 : Option Addr} {c1 : Nat} {sc sc' : Drv.S} {ha ha' : Option Addr} {hc hc' : Nat} {G : World → Prop} {A A' : Option Addr} {c c' : Nat} {o o' : List Int} {W wr w6 w7 : World}
theorem ChI.wrote (h : ChI D base db dc cs1 cs2 T1 T2 s1 h1 c1 sc ha hc G A c o W wr) (hk : DrvK (Dx D A) dc cs2 T2 (sc', false) ha' hc' w6) (hb : BelD (fun k => k = dc) wr w6) (hD : D dc) (hne : db ≠ dc) (hdc : dc < base) (hW : W.heap.size ≤ dc) : ChI D base db dc cs1 cs2 T1 T2 s1 h1 c1 sc' ha' hc' G A c o W w6 := by
  have hbx : BelD (Dx D A) wr w6 := hb.mono fun k (e : k = dc) => .inl (e ▸ hD)
  refine ⟨h.one.step hbx (hb.block _ h.one.box.lt hne), hk, fun V hV => h.dep V (hbx.trans hV), own_keep h.row fun j hj => hb.block j (own_ty h.row hj).2.1 (fun e => ?_), h.bel.trans (hb.below (fun k hk => by have e : k = dc := hk; omega) h.bel.size), Nat.le_trans h.sz hb.size⟩
  have := (own_ty h.row hj).1
  have e : j = dc := e
  omega
theorem ChI.pushed (h : ChI D base db dc cs1 cs2 T1 T2 s1 h1 c1 sc ha hc G A c o W wr) (hg : wr.grownBy w7 (ownA A)) (hn : Newer (ownA A) (ownA A') wr.heap.size) (hrow : w7.ownsRow base 5 1 (.slice A' o'.length c') o'.length (o'.map (Value.int .u8))) (hD : D db ∧ D dc) (hdb : db < base ∧ dc < base) (hW : W.heap.size ≤ base) :
    ChI D base db dc cs1 cs2 T1 T2 s1 h1 c1 sc ha hc G A' c' o' W w7 := by
  have hb : BelD (OwnR A) wr w7 := (BelD.refl (OwnR A) wr).grown hg fun k hk => .inr hk
  have hx : ∀ k, ownA A = some k → base ≤ k := fun k hk => (own_ty h.row hk).1
  have hA : ∀ k, ownA A' = some k → k < w7.heap.size := fun k hk => (own_ty hrow hk).2.1
  exact ⟨h.one.moved hb hn hD.1 (fun e => by have := hx _ e; omega) hA, h.two.moved hb hn hD.2 (fun e => by have := hx _ e; omega) hA, fun V hV => h.dep V (hb.out hn hV), hrow, h.bel.grown hg h.bel.size (fun k hk => by have := hx k hk; omega), Nat.le_trans h.sz hg.size⟩
end
set_option maxRecDepth 100000 in
set_option maxHeartbeats 64000000 in
theorem DriveChunks_walk (cs : Array Value) (T : TabI) (B : Option Addr) (bc : Nat) (bl : List Int) (C : Option Addr) (cc : Nat) (cl : List Int) (w : World) (hC : TabC cs T) (hT : TabW T w) (hB : BytesAt B bl w) (hblc : bl.length ≤ bc) (hbc : bc ≤ 9223372036854775807) (hCu : IntsAt C cl w) :
    Calls Tryz.prog 12 #[.agg cs, .slice B bl.length bc, .slice C cl.length cc] w fun e w' => e = .returned (.bool true) ∧ Below w.heap.size w w' := by
  obtain ⟨wa, hwa⟩ : ∃ z, w.alloc (.cells cs 49) = z := ⟨_, rfl⟩
  have HK1 : Hid (St w wa (fun W => TabBox w.heap.size cs W ∧ TabW T W ∧ BytesAt B bl W ∧ IntsAt C cl W)) := by rw [← hwa]; exact St.tbox (Lib.hid (St.start fun W hW => ⟨hT.below hW, hB.below hW, hCu.below hW⟩)) cs
  obtain ⟨wb, hwb⟩ : ∃ z, wa.alloc (.cells #[.slice B bl.length bc, .bool false] 83) = z := ⟨_, rfl⟩
  have HKb : Hid (St w wb (fun W => OpsAt (some ⟨wa.heap.size, 0, none⟩) [⟨B, bc, bl, false⟩] W ∧ (TabBox w.heap.size cs W ∧ TabW T W ∧ BytesAt B bl W ∧ IntsAt C cl W))) := Lib.hid (by
    rw [← hwb]
    have hb : Below wa.heap.size wa (wa.alloc (.cells #[.slice B bl.length bc, .bool false] 83)) := (Below.refl _ _).alloc (Nat.le_refl _) _
    refine HK1.out.add hb fun V hV => ?_
    have h1 : V.heap[wa.heap.size]? = some (.cells #[.slice B bl.length bc, .bool false] 83 (0, 0)) := (hV.block _ (by simp)).trans (heap_alloc_new wa _)
    exact ops_one (o := ⟨B, bc, bl, false⟩) h1 (HK1.out.1 V (hb.trans (hV.mono hb.size))).2.2.1)
  have HC := Lib.hid hC
  have HI : Hid ((Tryz.prog.info? 49).map (·.size) = some cs.size) := Lib.hid (by rw [hC.size]; exact info_tabS)
  have hbn := hB.ln
  have hcn := hCu.ln
  have HLW : Hid (∀ V, Below w.heap.size w V → BytesAt B bl V ∧ IntsAt C cl V) := Lib.hid fun V hV => ⟨hB.below hV, hCu.below hV⟩
  clear hC hT hB hCu
  go_enter Tryz.func12, Tryz.ntmps12
  by_cases hg : GreatO T.L [⟨B, bc, bl, false⟩]
  · have HG := Lib.hid (pB_true hg)
    clear hg
    go_wp2_with (first
      | (refine wpList_load_row rfl 49 _ rfl w.heap.size rfl _ cs _ _ HK1.out.now.1 Tryz.underlying49 rfl HI.out ?_)
      | (go_at_call 37; (try rw [hwb]); refine (great19_st HKb cs T HC.out (fun _ h => h.2.2.1) (fun _ h => h.1) 1 true HG).mono ?_; rintro e w2 ⟨rfl, HK2⟩)
      | (go_at_call 38; refine (awake19_st HK2).mono ?_; rintro e w3 ⟨rfl, HK3⟩))
    go_ret
    exact ⟨rfl, HK3.out.2⟩
  have hsm := ops_small hg
  have hs1 := hsm.1
  have hbl6 : bl.length ≤ 600 := hsm.2.2 _ List.mem_cons_self
  have HG := Lib.hid (pB_false hg)
  have HS := Lib.hid hs1
  clear hg hsm hs1
  by_cases h60 : 60 < cl.length
  · have h60i : (60 : Int) < (cl.length : Int) := by omega
    go_wp2_with (first
      | (refine wpList_load_row rfl 49 _ rfl w.heap.size rfl _ cs _ _ HK1.out.now.1 Tryz.underlying49 rfl HI.out ?_)
      | (go_at_call 37; (try rw [hwb]); refine (great19_st HKb cs T HC.out (fun _ h => h.2.2.1) (fun _ h => h.1) 1 false HG).mono ?_; rintro e w2 ⟨rfl, HK2⟩)
      | (go_at_call 38; refine (awake19_st HK2).mono ?_; rintro e w3 ⟨rfl, HK3⟩))
    go_ret
    exact ⟨rfl, HK3.out.2⟩
  have h60i : ¬ (60 : Int) < (cl.length : Int) := by omega
  have h60d : decide ((60 : Int) < (cl.length : Int)) = false := by simp; omega
  go_wp2_with (first
    | (refine wpList_load_row rfl 49 _ rfl w.heap.size rfl _ cs _ _ HK1.out.now.1 Tryz.underlying49 rfl HI.out ?_)
    | (go_at_call 37; (try rw [hwb]); refine (great19_st HKb cs T HC.out (fun _ h => h.2.2.1) (fun _ h => h.1) 1 false HG).mono ?_; rintro e w2 ⟨rfl, HK2⟩))
  refine wp_load_row 49 _ rfl w.heap.size rfl _ cs _ _ HK2.out.now.2.1 Tryz.underlying49 rfl HI.out ?_
  clear h60i h60d hwa hwb
  by_cases hok : TabOk T.L
  case neg =>
    have HV := Lib.hid (pB_false hok)
    clear hok
    go_wp2_with fail
    refine (new_st w2 cs T HC.out HK2.out.now.2.2.1 HS.out false HV).mono ?_
    rintro e w3 (⟨-, rfl, HB3⟩ | ⟨h, -⟩)
    · have HK3 := Lib.hid (HK2.out.step HB3.out)
      go_wp2_with fail
      refine wp_load_row 49 _ rfl w.heap.size rfl _ cs _ _ HK3.out.now.2.1 Tryz.underlying49 rfl HI.out ?_
      go_wp2_with fail
      refine (new_st w3 cs T HC.out HK3.out.now.2.2.1 HS.out false HV).mono ?_
      rintro e w4 (⟨-, rfl, HB4⟩ | ⟨h, -⟩)
      · go_wp2_with (go_at_call 38; refine (awake19_st (Lib.hid (HK3.out.step HB4.out))).mono ?_; rintro e w5 ⟨rfl, HK5⟩)
        go_ret
        exact ⟨rfl, HK5.out.2⟩
      · cases h
    · cases h
  have HV := Lib.hid (pB_true hok)
  have HOK := Lib.hid hok
  clear hok
  go_wp2_with fail
  refine (new_st w2 cs T HC.out HK2.out.now.2.2.1 HS.out true HV).mono ?_
  rintro e w3 (⟨h, -⟩ | ⟨-, db, cs1, T1, rfl, HT1, HD1, HDP1, HB3, hdb⟩)
  · cases h
  have HK3 := Lib.hid (HK2.out.step HB3.out)
  go_wp2_with fail
  refine wp_load_row 49 _ rfl w.heap.size rfl _ cs _ _ HK3.out.now.2.1 Tryz.underlying49 rfl HI.out ?_
  go_wp2_with fail
  refine (new_st w3 cs T HC.out HK3.out.now.2.2.1 HS.out true HV).mono ?_
  rintro e w4 (⟨h, -⟩ | ⟨-, dc, cs2, T2, rfl, HT2, HD2, HDP2, HB4, hdc⟩)
  · cases h
  have HL1 : Hid (T1.L = T.L) := Lib.hid HT1.out.2
  have HL2 : Hid (T2.L = T.L) := Lib.hid HT2.out.2
  have HDB : Hid (w.heap.size ≤ db ∧ db < w3.heap.size ∧ w3.heap.size ≤ dc ∧ dc < w4.heap.size) := Lib.hid ⟨by have := HK2.out.2.size; omega, HD1.out.lt, hdc, HD2.out.lt⟩
  have HM : Hid (DrvK (fun k => k = db ∨ k = dc) db cs1 T1 s00 none 0 w4) := Lib.hid (DrvK.wide (drvNew HT1.out.1 (by rw [HL1.out]; exact HOK.out) HD1.out HDP1.out) HB4.out (fun k hk => .inl hk) (fun k hk => hk.imp id fun e => by have := HDB.out; omega) (fun k hk => by have := HDB.out; have := HB4.out.size; omega))
  have HN : Hid (DrvK (fun k => k = db ∨ k = dc) dc cs2 T2 s00 none 0 w4) := Lib.hid (drvNewD HT2.out.1 (by rw [HL2.out]; exact HOK.out) HD2.out HDP2.out (fun k hk => by have := HDB.out; omega) (.inr rfl) (fun k hk => by have := HDB.out; have := HB4.out.size; omega))
  have HBW4 : Hid (Below w.heap.size w w4) := Lib.hid (HK3.out.2.trans (HB4.out.mono HK3.out.2.size))
  have HBD : Hid (∀ a b : World, Below w.heap.size w a → BelD (fun k => k = db ∨ k = dc) a b → Below w.heap.size w b) := Lib.hid fun a b ha hb => ha.trans (hb.below (fun k hk => by have := HDB.out; omega) ha.size)
  clear hdb hdc HD1 HD2 HDP1 HDP2 HT1 HT2 HK1 HKb HK2 HK3 HG HS HV HC HI
  have hnn : ((some (⟨db, 0, none⟩ : Addr)) == none) = false := rfl
  go_wp2_with fail
  obtain ⟨⟨sF, oF⟩, hF⟩ : ∃ z, Drv.go (drvM T.L) s00.1 bl = z := ⟨_, rfl⟩
  have HF := Lib.hid hF
  have HWS : Hid (wrS T1.L s00 bl = ((sF, false), oF, rejE sF.rej)) := Lib.hid (by rw [HL1.out, show s00 = (s00.1, false) from rfl, wrS_open rfl, hF])
  obtain ⟨eF, heF⟩ : ∃ z, rejE sF.rej = z := ⟨_, rfl⟩
  have HEF := Lib.hid heF
  rw [heF] at HWS
  clear hF heF
  refine (Write_st HM bc (Lib.hid fun V hV => (HLW.out V (HBD.out _ _ HBW4.out hV)).1) (by omega)).mono ?_
  rintro e w5 ⟨A5, c5, ha5, hc5, rfl, HM5, HB5, HY5, HR5, HO5⟩
  rw [HWS.out] at HM5 HY5 HR5 HO5
  rw [HWS.out]
  simp only at HM5 HY5 HR5 HO5 ⊢
  have HN5 : Hid (DrvK (fun k => k = db ∨ k = dc) dc cs2 T2 s00 none 0 w5) := Lib.hid (HN.out.step (HB5.out.mono fun k hk => .inl hk) (HB5.out.block _ HN.out.box.lt (fun e => by have e : dc = db := e; have := HDB.out; omega)))
  have HBW5 : Hid (Below w.heap.size w w5) := Lib.hid (HBD.out _ _ HBW4.out (HB5.out.mono fun k hk => .inl hk))
  have HSZ : Hid (w4.heap.size ≤ w5.heap.size) := Lib.hid HB5.out.size
  have HI0 : Hid (ChI (fun k => k = db ∨ k = dc) w5.heap.size db dc cs1 cs2 T1 T2 (sF, false) ha5 hc5 s00.1 none 0 (fun V => BytesAt A5 oF V ∧ BytesAt B bl V ∧ IntsAt C cl V) none 0 [] w w5) := Lib.hid
    ⟨HM5.out.wide (Below.refl _ _) (fun k hk => .inl hk) (fun k hk => .inl (hk.elim id fun e => (by cases e))) (fun k hk => HM5.out.lt k (hk.elim id fun e => (by cases e))),
     HN5.out.wide (Below.refl _ _) (fun k hk => .inl hk) (fun k hk => .inl (hk.elim id fun e => (by cases e))) (fun k hk => HN5.out.lt k (hk.elim id fun e => (by cases e))),
     fun V hV => ⟨HY5.out V (hV.mono fun k hk => hk.elim id fun e => (by cases e)), HLW.out V (HBD.out _ _ HBW5.out (hV.mono fun k hk => hk.elim id fun e => (by cases e)))⟩, World.ownsRow_nil _ _ _ _, HBW5.out, Nat.le_refl _⟩
  clear HM HN HN5 HM5 HB5 HY5 HR5 HBW4
  go_wp2_with fail
  go_loopw [13, 14, 15, 16] (fun ov hv av iv wr => ∃ (k at_ : Nat) (sc : Drv.S) (A : Option Addr) (c : Nat) (o : List Int) (ha : Option Addr) (hc : Nat) (e : Int), k ≤ cl.length + 1 ∧ iv = .int .i64 k ∧ at_ ≤ bl.length ∧ av = .int .i64 at_ ∧ ov = .slice A o.length c ∧ hv = .int .i64 e ∧ o.length ≤ k * 262400 ∧ Hid (k = cl.length + 1 → at_ = bl.length) ∧ Hid (e = rejE sc.rej) ∧ Hid (Drv.go (drvM T.L) s00.1 bl = ((Drv.go (drvM T.L) sc (bl.drop at_)).1, o ++ (Drv.go (drvM T.L) sc (bl.drop at_)).2)) ∧ Hid (ChI (fun k => k = db ∨ k = dc) w5.heap.size db dc cs1 cs2 T1 T2 (sF, false) ha5 hc5 sc ha hc (fun V => BytesAt A5 oF V ∧ BytesAt B bl V ∧ IntsAt C cl V) A c o w wr)) (fun _ _ _ iv _ => cl.length + 1 - (intOf iv).toNat)
  case atStart => exact ⟨0, 0, s00.1, none, 0, [], none, 0, 0, Nat.zero_le _, rfl, Nat.zero_le _, rfl, rfl, rfl, Nat.zero_le _, Lib.hid (fun h => by omega), Lib.hid rfl, Lib.hid (by simp), HI0⟩
  case round =>
  clear HI0
  obtain ⟨k, at_, sc, A, c, o, ha, hc, er, hk, rfl, hat, rfl, rfl, rfl, hol, HKE, HER, HGO, HIr⟩ := hrel
  by_cases hgo : k ≤ cl.length ∧ er = 0
  case neg =>
    have HE : Hid (sc = sF ∧ o = oF ∧ er = eF) := Lib.hid (by
      have h1 := HGO.out
      rw [HF.out] at h1
      have h2 : Drv.go (drvM T.L) sc (bl.drop at_) = (sc, []) := by
        by_cases hz : er = 0
        · have : at_ = bl.length := HKE.out (by omega)
          rw [this, List.drop_length, Drv.go_nil]
        · refine Drv.go_rej _ _ ?_ _
          rw [HER.out] at hz
          rcases hr : sc.rej with _ | _
          · rw [hr] at hz; exact absurd rfl hz
          · rfl
      rw [h2] at h1
      simp only [List.append_nil, Prod.mk.injEq] at h1
      exact ⟨h1.1.symm, h1.2.symm, by rw [HER.out, ← h1.1, HEF.out]⟩)
    obtain ⟨e1, e2, e3⟩ := HE.out
    subst e1 e2 e3
    have hcv1 := run_conv_str (P := Tryz.prog) wr 79 5 Tryz.underlying79 Tryz.underlying5 A o.length c o (Sl.of_own HIr.out.row) 9 Tryz.underlying9
    have hcv2 := run_conv_str (P := Tryz.prog) wr 79 5 Tryz.underlying79 Tryz.underlying5 A5 o.length c5 o (by
      have h := (HIr.out.dep wr (BelD.refl _ _)).1.sl
      rwa [← List.map_eq_flatMap] at h) 9 Tryz.underlying9
    have HS1 : Hid (cs1.size = 259) := Lib.hid HIr.out.one.tc.size
    have HS2 : Hid (cs2.size = 259) := Lib.hid HIr.out.two.tc.size
    have hnb : (sc.node != sc.node) = false := by simp
    have hnb2 : ((sc.node : Int) != (sc.node : Int)) = false := by simp
    have heb : (er != er) = false := by simp
    have HM6 : Hid (DrvK (Dx (fun k => k = db ∨ k = dc) A) db cs1 T1 (sc, false) ha5 hc5 wr) := Lib.hid HIr.out.one
    have HN6 : Hid (DrvK (Dx (fun k => k = db ∨ k = dc) A) dc cs2 T2 (sc, false) ha hc wr) := Lib.hid HIr.out.two
    have HBB : Hid (Below w.heap.size w wr ∧ ∀ k, Dx (fun k => k = db ∨ k = dc) A k → w.heap.size ≤ k) := Lib.hid ⟨HIr.out.bel, fun k hk => by
      have h1 := HDB.out
      have h2 := HSZ.out
      rcases hk with hk | hk
      · omega
      · have := (own_ty HIr.out.row hk).1; omega⟩
    obtain ⟨⟨s7, o7, e7⟩, hcl7⟩ : ∃ z, clS T.L (sc, false) = z := ⟨_, rfl⟩
    have HC1 : Hid (clS T1.L (sc, false) = (s7, o7, e7)) := Lib.hid (by rw [HL1.out]; exact hcl7)
    have HC2 : Hid (clS T2.L (sc, false) = (s7, o7, e7)) := Lib.hid (by rw [HL2.out]; exact hcl7)
    clear hcl7 HIr HKE HGO
    by_cases hkl : k ≤ cl.length
    · have hkl1 : (k : Int) ≤ (cl.length : Int) := by omega
      have hez : (er == 0) = false := by rw [beq_eq_false_iff_ne]; exact fun h => hgo ⟨hkl, h⟩
      clear hgo
      go_wp2_with fail
      refine (Node_st HM6.out.box HS1.out).mono ?_
      rintro e w6 ⟨rfl, rfl⟩
      go_wp2_with fail
      refine (Node_st HN6.out.box HS2.out).mono ?_
      rintro e w6 ⟨rfl, rfl⟩
      go_wp2_with fail
      refine (Close_st HM6).mono ?_
      rintro e w7 ⟨A7, c7, ha7, hc7, rfl, HK7, HB7, HY7, HR7, HO7⟩
      rw [HC1.out] at HK7 HY7 HR7 HO7
      rw [HC1.out]
      simp only at HK7 HY7 HR7 HO7 ⊢
      have HN7 : Hid (DrvK (Dx (fun k => k = db ∨ k = dc) A) dc cs2 T2 (sc, false) ha hc w7) := Lib.hid (HN6.out.step (HB7.out.mono fun k hk => .inl (.inl hk)) (HB7.out.block _ HN6.out.box.lt (fun e => by have e : dc = db := e; have := HDB.out; omega)))
      have HBB7 : Hid (Below w.heap.size w w7) := Lib.hid (HBB.out.1.trans (HB7.out.below (fun k hk => by have e : k = db := hk; have := HDB.out; omega) HBB.out.1.size))
      go_wp2_with fail
      refine (Close_st HN7).mono ?_
      rintro e w8 ⟨A8, c8, ha8, hc8, rfl, HK8, HB8, HY8, HR8, HO8⟩
      rw [HC2.out] at HK8 HY8 HR8 HO8
      rw [HC2.out]
      simp only at HK8 HY8 HR8 HO8 ⊢
      have HBB8 : Hid (Below w.heap.size w w8) := Lib.hid (HBB7.out.trans (HB8.out.below (fun k hk => by have e : k = dc := hk; have := HDB.out; omega) HBB7.out.size))
      have hcw1 := run_conv_str (P := Tryz.prog) w8 79 5 Tryz.underlying79 Tryz.underlying5 A7 o7.length c7 o7 (by
        have h := (HY7.out w8 (HB8.out.mono fun k hk => .inl (.inr hk))).sl
        rwa [← List.map_eq_flatMap] at h) 9 Tryz.underlying9
      have hcw2 := run_conv_str (P := Tryz.prog) w8 79 5 Tryz.underlying79 Tryz.underlying5 A8 o7.length c8 o7 (Sl.of_own HR8.out) 9 Tryz.underlying9
      go_wp2_with (go_at_call 38; refine (awake19_st (w0 := w) (F := fun _ => True) (Lib.hid ⟨fun _ _ => trivial, HBB8.out⟩)).mono ?_; rintro e w9 ⟨rfl, HK9⟩)
      go_ret
      exact ⟨rfl, HK9.out.2⟩
    · have hkl1 : ¬ (k : Int) ≤ (cl.length : Int) := by omega
      have hkl2 : decide ((k : Int) ≤ (cl.length : Int)) = false := by simp; omega
      clear hgo
      go_wp2_with fail
      refine (Node_st HM6.out.box HS1.out).mono ?_
      rintro e w6 ⟨rfl, rfl⟩
      go_wp2_with fail
      refine (Node_st HN6.out.box HS2.out).mono ?_
      rintro e w6 ⟨rfl, rfl⟩
      go_wp2_with fail
      refine (Close_st HM6).mono ?_
      rintro e w7 ⟨A7, c7, ha7, hc7, rfl, HK7, HB7, HY7, HR7, HO7⟩
      rw [HC1.out] at HK7 HY7 HR7 HO7
      rw [HC1.out]
      simp only at HK7 HY7 HR7 HO7 ⊢
      have HN7 : Hid (DrvK (Dx (fun k => k = db ∨ k = dc) A) dc cs2 T2 (sc, false) ha hc w7) := Lib.hid (HN6.out.step (HB7.out.mono fun k hk => .inl (.inl hk)) (HB7.out.block _ HN6.out.box.lt (fun e => by have e : dc = db := e; have := HDB.out; omega)))
      have HBB7 : Hid (Below w.heap.size w w7) := Lib.hid (HBB.out.1.trans (HB7.out.below (fun k hk => by have e : k = db := hk; have := HDB.out; omega) HBB.out.1.size))
      go_wp2_with fail
      refine (Close_st HN7).mono ?_
      rintro e w8 ⟨A8, c8, ha8, hc8, rfl, HK8, HB8, HY8, HR8, HO8⟩
      rw [HC2.out] at HK8 HY8 HR8 HO8
      rw [HC2.out]
      simp only at HK8 HY8 HR8 HO8 ⊢
      have HBB8 : Hid (Below w.heap.size w w8) := Lib.hid (HBB7.out.trans (HB8.out.below (fun k hk => by have e : k = dc := hk; have := HDB.out; omega) HBB7.out.size))
      have hcw1 := run_conv_str (P := Tryz.prog) w8 79 5 Tryz.underlying79 Tryz.underlying5 A7 o7.length c7 o7 (by
        have h := (HY7.out w8 (HB8.out.mono fun k hk => .inl (.inr hk))).sl
        rwa [← List.map_eq_flatMap] at h) 9 Tryz.underlying9
      have hcw2 := run_conv_str (P := Tryz.prog) w8 79 5 Tryz.underlying79 Tryz.underlying5 A8 o7.length c8 o7 (Sl.of_own HR8.out) 9 Tryz.underlying9
      go_wp2_with (go_at_call 38; refine (awake19_st (w0 := w) (F := fun _ => True) (Lib.hid ⟨fun _ _ => trivial, HBB8.out⟩)).mono ?_; rintro e w9 ⟨rfl, HK9⟩)
      go_ret
      exact ⟨rfl, HK9.out.2⟩
  obtain ⟨hkl, rfl⟩ := hgo
  have hkl1 : (k : Int) ≤ (cl.length : Int) := by omega
  have hrj : sc.rej = false := by
    have h := HER.out
    unfold rejE at h
    rcases hr : sc.rej with _ | _
    · rfl
    · rw [hr] at h; simp at h
  have HRJ := Lib.hid hrj
  clear hrj HKE
  obtain ⟨tt, ht1, ht2, HTT⟩ : ∃ tt : Nat, at_ ≤ tt ∧ tt ≤ bl.length ∧ Hid ((k = cl.length → tt = bl.length) ∧ ∀ x, cl[k]? = some x → wrap64 ((at_ : Int) + wrap64 ((IntKind.u64.wrap x).tmod ((bl.length : Int) - (at_ : Int) + 1))) = (tt : Int)) := by
    by_cases h : k < cl.length
    · obtain ⟨tt, h1, h2, h3⟩ := cut_ex cl[k] bl.length at_ hat (by omega)
      refine ⟨tt, h2, h3, Lib.hid ⟨fun e => by omega, fun x hx => ?_⟩⟩
      rw [List.getElem?_eq_getElem h] at hx
      injection hx with hx
      rw [← hx]; exact h1
    · exact ⟨bl.length, hat, Nat.le_refl _, Lib.hid ⟨fun _ => rfl, fun x hx => by rw [List.getElem?_eq_none (by omega)] at hx; cases hx⟩⟩
  obtain ⟨ch, hch⟩ : ∃ z, (bl.take tt).drop at_ = z := ⟨_, rfl⟩
  have hchl : ch.length = tt - at_ := by rw [← hch, List.length_drop, List.length_take]; omega
  obtain ⟨⟨s6, o6⟩, hgx⟩ : ∃ z, Drv.go (drvM T.L) sc ch = z := ⟨_, rfl⟩
  obtain ⟨e6, he6⟩ : ∃ z, rejE s6.rej = z := ⟨_, rfl⟩
  have HWS2 : Hid (wrS T2.L (sc, false) ch = ((s6, false), o6, e6)) := Lib.hid (by rw [HL2.out, wrS_open HRJ.out, hgx, he6])
  have HGO2 : Hid (Drv.go (drvM T.L) s00.1 bl = ((Drv.go (drvM T.L) s6 (bl.drop tt)).1, (o ++ o6) ++ (Drv.go (drvM T.L) s6 (bl.drop tt)).2)) := Lib.hid (by
    have e : bl.drop at_ = ch ++ bl.drop tt := by
      have e1 : bl.drop at_ = ((bl.take tt) ++ (bl.drop tt)).drop at_ := by rw [List.take_append_drop]
      rw [e1, List.drop_append_of_le_length (by rw [List.length_take]; omega), hch]
    rw [HGO.out, e, Drv.go_append, hgx]
    simp only [List.append_assoc])
  have HE6 := Lib.hid he6.symm
  have HCL := Lib.hid hchl
  have HCH : Hid (∀ A', (∀ b off, B = some ⟨b, off, none⟩ → (A' = some ⟨b, off, none⟩ ∧ bc - at_ = 0) ∨ A' = some ⟨b, off + at_, none⟩) → ∀ V, BelD (Dx (fun k => k = db ∨ k = dc) A) wr V → BytesAt A' ch V) := Lib.hid fun A' hA V hV => by
    have h1 := (HIr.out.dep V hV).2.1
    rcases Nat.eq_zero_or_pos ch.length with h0 | h0
    · rw [List.eq_nil_of_length_eq_zero h0]; exact BytesAt.nil_ _ _
    · obtain ⟨b, off, x, e, -⟩ := h1.at_ (j := 0) (by omega)
      subst e
      rcases hA b off rfl with ⟨_, e⟩ | rfl
      · omega
      · rw [← hch]; exact h1.cut at_ tt
  have HWRT : Hid (∀ (A' : Option Addr) (cx : Nat), (∀ V, BelD (Dx (fun k => k = db ∨ k = dc) A) wr V → BytesAt A' ch V) → Calls Tryz.prog 42 #[.pointer (some ⟨dc, 0, none⟩), .slice A' (tt - at_) cx] wr (RetWr (Dx (fun k => k = db ∨ k = dc) A) dc cs2 T2 (sc, false) ch wr)) := Lib.hid fun A' cx h => by
    have h1 := Write_st (Lib.hid HIr.out.two) (B := A') (bl := ch) cx (Lib.hid h) (by omega)
    rwa [hchl] at h1
  have hto1 : (at_ : Int) ≤ (tt : Int) := by omega
  have hto2 : (tt : Int) ≤ (bc : Int) := by omega
  clear hch hgx he6 hchl HGO HER
  by_cases hlt : k < cl.length
  · obtain ⟨cb, coff, x, rfl, hx, -, hcx⟩ := (HIr.out.dep wr (BelD.refl _ _)).2.2.at_ hlt
    have hlti : (k : Int) < (cl.length : Int) := by omega
    have ht := HTT.out.2 x hx
    have hnz : IntKind.u64.wrap (IntKind.i64.wrap (IntKind.i64.wrap ((bl.length : Int) - (at_ : Int)) + 1)) ≠ 0 := by simp [IntKind.wrap, IntKind.signed, IntKind.bits]; omega
    clear hx
    go_upto_region 15 with fail
    go_upto_region 16 with fail
    go_upto_region 17 with fail
    (try rw [ht])
    clear ht hnz
    rcases Nat.lt_or_ge at_ bc with hab | hab
    · have habi : (at_ : Int) < (bc : Int) := by omega
      have habz : (bc - at_ == 0) = false := by simp; omega
      have habn : ¬ bc - at_ = 0 := by omega
      go_upto_region 18 with fail
      go_cut [14, 18] (fun v14 v18 wq => ∃ (A6 : Option Addr) (c6 : Nat) (ha6 : Option Addr) (hc6 : Nat), v14 = .int .i64 e6 ∧ v18 = .slice A6 o6.length c6 ∧ Hid (DrvK (Dx (fun k => k = db ∨ k = dc) A) dc cs2 T2 (s6, false) ha6 hc6 wq) ∧ Hid (BelD (fun k => k = dc) wr wq) ∧ Hid (wq.ownsRow wr.heap.size 5 1 (.slice A6 o6.length c6) o6.length (o6.map (Value.int .u8))) ∧ Hid (o6.length ≤ 262400))
      case first =>
        go_wp2_with fail
        all_goals
          refine (HWRT.out _ _ fun V hV => HCH.out _ ?_ V hV).mono ?_
          · intro b off e
            first
              | exact .inl ⟨e, by omega⟩
              | exact .inr (by rw [e]; simp [Addr.add])
          · rintro e w6 ⟨A6, c6, ha6, hc6, rfl, HK6, HB6, HY6, HR6, HO6⟩
            rw [HWS2.out] at HK6 HY6 HR6 HO6
            rw [HWS2.out]
            simp only at HK6 HY6 HR6 HO6 ⊢
            go_wp2_with fail
            go_meet
            exact ⟨A6, c6, ha6, hc6, rfl, rfl, HK6, HB6, HR6, HO6⟩
      case rest =>
      obtain ⟨A6, c6, ha6, hc6, rfl, rfl, HK6, HB6, HR6, HO6⟩ := hcut
      obtain ⟨w6, hw6⟩ : ∃ z, z = wc := ⟨_, rfl⟩
      subst hw6
      have HS5 : Hid (db < w5.heap.size ∧ dc < w5.heap.size ∧ db ≠ dc ∧ w.heap.size ≤ dc ∧ w.heap.size ≤ w5.heap.size) := Lib.hid (by have := HDB.out; have := HSZ.out; omega)
      have HI6 := Lib.hid (HIr.out.wrote HK6.out HB6.out (.inr rfl) HS5.out.2.2.1 HS5.out.2.1 HS5.out.2.2.2.1)
      have HSL : Hid (Sl w6 1 A6 o6.length (o6.map (Value.int .u8))) := Lib.hid (Sl.of_own HR6.out)
      have hW5 : w5.heap.size ≤ w6.heap.size := HI6.out.sz
      have ho6 := HO6.out
      have hk6 : k * 262400 ≤ 60 * 262400 := Nat.mul_le_mul_right _ (by omega)
      have h63 : o.length + o6.length ≤ maxLen := by unfold maxLen; omega
      have hby : (o.length + o6.length) * 1 ≤ 140737488355328 := by omega
      obtain ⟨i0, hi, hz0, hz1, hz2⟩ := info_parts infoByteD
      clear ho6 hk6
      go_wp2_with (at_builtin; go_must (refine wpList_append_slN _ rfl _ _ 79 rfl w5.heap.size 5 i0 _ 1 1 Tryz.underlying79 hi hz0 hz1 hz2 rfl (by decide) HI6.out.row rfl HSL.out rfl (bytes_one o6) h63 hby hW5 ?_); intro A8 c8 w8 HO8 HG8 HN8)
      go_roundw
      case rel =>
        refine ⟨k + 1, tt, s6, A8, c8, o ++ o6, ha6, hc6, e6, by omega, by go_num, ht2, rfl, by rw [List.length_append], rfl, ?_, Lib.hid fun h => HTT.out.1 (Nat.succ.inj h), HE6, HGO2, Lib.hid (HI6.out.pushed HG8.out HN8.out ?_ ⟨.inl rfl, .inr rfl⟩ ⟨HS5.out.1, HS5.out.2.1⟩ HS5.out.2.2.2.2)⟩
        · rw [List.length_append, Nat.add_mul]; have := HO6.out; omega
        · rw [List.length_append, List.map_append]; exact HO8.out
      case measure => simp [intOf]; omega
    · obtain rfl : at_ = bc := by omega
      go_upto_region 18 with fail
      go_cut [14, 18] (fun v14 v18 wq => ∃ (A6 : Option Addr) (c6 : Nat) (ha6 : Option Addr) (hc6 : Nat), v14 = .int .i64 e6 ∧ v18 = .slice A6 o6.length c6 ∧ Hid (DrvK (Dx (fun k => k = db ∨ k = dc) A) dc cs2 T2 (s6, false) ha6 hc6 wq) ∧ Hid (BelD (fun k => k = dc) wr wq) ∧ Hid (wq.ownsRow wr.heap.size 5 1 (.slice A6 o6.length c6) o6.length (o6.map (Value.int .u8))) ∧ Hid (o6.length ≤ 262400))
      case first =>
        go_wp2_with fail
        all_goals
          refine (HWRT.out _ _ fun V hV => HCH.out _ ?_ V hV).mono ?_
          · intro b off e
            first
              | exact .inl ⟨e, by omega⟩
              | exact .inr (by rw [e]; simp [Addr.add])
          · rintro e w6 ⟨A6, c6, ha6, hc6, rfl, HK6, HB6, HY6, HR6, HO6⟩
            rw [HWS2.out] at HK6 HY6 HR6 HO6
            rw [HWS2.out]
            simp only at HK6 HY6 HR6 HO6 ⊢
            go_wp2_with fail
            go_meet
            exact ⟨A6, c6, ha6, hc6, rfl, rfl, HK6, HB6, HR6, HO6⟩
      case rest =>
      obtain ⟨A6, c6, ha6, hc6, rfl, rfl, HK6, HB6, HR6, HO6⟩ := hcut
      obtain ⟨w6, hw6⟩ : ∃ z, z = wc := ⟨_, rfl⟩
      subst hw6
      have HS5 : Hid (db < w5.heap.size ∧ dc < w5.heap.size ∧ db ≠ dc ∧ w.heap.size ≤ dc ∧ w.heap.size ≤ w5.heap.size) := Lib.hid (by have := HDB.out; have := HSZ.out; omega)
      have HI6 := Lib.hid (HIr.out.wrote HK6.out HB6.out (.inr rfl) HS5.out.2.2.1 HS5.out.2.1 HS5.out.2.2.2.1)
      have HSL : Hid (Sl w6 1 A6 o6.length (o6.map (Value.int .u8))) := Lib.hid (Sl.of_own HR6.out)
      have hW5 : w5.heap.size ≤ w6.heap.size := HI6.out.sz
      have ho6 := HO6.out
      have hk6 : k * 262400 ≤ 60 * 262400 := Nat.mul_le_mul_right _ (by omega)
      have h63 : o.length + o6.length ≤ maxLen := by unfold maxLen; omega
      have hby : (o.length + o6.length) * 1 ≤ 140737488355328 := by omega
      obtain ⟨i0, hi, hz0, hz1, hz2⟩ := info_parts infoByteD
      clear ho6 hk6
      go_wp2_with (at_builtin; go_must (refine wpList_append_slN _ rfl _ _ 79 rfl w5.heap.size 5 i0 _ 1 1 Tryz.underlying79 hi hz0 hz1 hz2 rfl (by decide) HI6.out.row rfl HSL.out rfl (bytes_one o6) h63 hby hW5 ?_); intro A8 c8 w8 HO8 HG8 HN8)
      go_roundw
      case rel =>
        refine ⟨k + 1, tt, s6, A8, c8, o ++ o6, ha6, hc6, e6, by omega, by go_num, ht2, rfl, by rw [List.length_append], rfl, ?_, Lib.hid fun h => HTT.out.1 (Nat.succ.inj h), HE6, HGO2, Lib.hid (HI6.out.pushed HG8.out HN8.out ?_ ⟨.inl rfl, .inr rfl⟩ ⟨HS5.out.1, HS5.out.2.1⟩ HS5.out.2.2.2.2)⟩
        · rw [List.length_append, Nat.add_mul]; have := HO6.out; omega
        · rw [List.length_append, List.map_append]; exact HO8.out
      case measure => simp [intOf]; omega
  · have HKQ : Hid (k = cl.length) := Lib.hid (by omega)
    have hd1 : decide ((k : Int) < (cl.length : Int)) = false := by simp; omega
    have hd2 : ¬ (k : Int) < (cl.length : Int) := by omega
    have HTQ : Hid (((bl.length : Nat) : Int) = (tt : Int)) := Lib.hid (by rw [HTT.out.1 HKQ.out])
    go_upto_region 17 with fail
    rw [HTQ.out]
    clear hd1 hd2
    rcases Nat.lt_or_ge at_ bc with hab | hab
    · have habi : (at_ : Int) < (bc : Int) := by omega
      have habz : (bc - at_ == 0) = false := by simp; omega
      have habn : ¬ bc - at_ = 0 := by omega
      go_upto_region 18 with fail
      go_cut [14, 18] (fun v14 v18 wq => ∃ (A6 : Option Addr) (c6 : Nat) (ha6 : Option Addr) (hc6 : Nat), v14 = .int .i64 e6 ∧ v18 = .slice A6 o6.length c6 ∧ Hid (DrvK (Dx (fun k => k = db ∨ k = dc) A) dc cs2 T2 (s6, false) ha6 hc6 wq) ∧ Hid (BelD (fun k => k = dc) wr wq) ∧ Hid (wq.ownsRow wr.heap.size 5 1 (.slice A6 o6.length c6) o6.length (o6.map (Value.int .u8))) ∧ Hid (o6.length ≤ 262400))
      case first =>
        go_wp2_with fail
        all_goals
          refine (HWRT.out _ _ fun V hV => HCH.out _ ?_ V hV).mono ?_
          · intro b off e
            first
              | exact .inl ⟨e, by omega⟩
              | exact .inr (by rw [e]; simp [Addr.add])
          · rintro e w6 ⟨A6, c6, ha6, hc6, rfl, HK6, HB6, HY6, HR6, HO6⟩
            rw [HWS2.out] at HK6 HY6 HR6 HO6
            rw [HWS2.out]
            simp only at HK6 HY6 HR6 HO6 ⊢
            go_wp2_with fail
            go_meet
            exact ⟨A6, c6, ha6, hc6, rfl, rfl, HK6, HB6, HR6, HO6⟩
      case rest =>
      obtain ⟨A6, c6, ha6, hc6, rfl, rfl, HK6, HB6, HR6, HO6⟩ := hcut
      obtain ⟨w6, hw6⟩ : ∃ z, z = wc := ⟨_, rfl⟩
      subst hw6
      have HS5 : Hid (db < w5.heap.size ∧ dc < w5.heap.size ∧ db ≠ dc ∧ w.heap.size ≤ dc ∧ w.heap.size ≤ w5.heap.size) := Lib.hid (by have := HDB.out; have := HSZ.out; omega)
      have HI6 := Lib.hid (HIr.out.wrote HK6.out HB6.out (.inr rfl) HS5.out.2.2.1 HS5.out.2.1 HS5.out.2.2.2.1)
      have HSL : Hid (Sl w6 1 A6 o6.length (o6.map (Value.int .u8))) := Lib.hid (Sl.of_own HR6.out)
      have hW5 : w5.heap.size ≤ w6.heap.size := HI6.out.sz
      have ho6 := HO6.out
      have hk6 : k * 262400 ≤ 60 * 262400 := Nat.mul_le_mul_right _ (by omega)
      have h63 : o.length + o6.length ≤ maxLen := by unfold maxLen; omega
      have hby : (o.length + o6.length) * 1 ≤ 140737488355328 := by omega
      obtain ⟨i0, hi, hz0, hz1, hz2⟩ := info_parts infoByteD
      clear ho6 hk6
      go_wp2_with (at_builtin; go_must (refine wpList_append_slN _ rfl _ _ 79 rfl w5.heap.size 5 i0 _ 1 1 Tryz.underlying79 hi hz0 hz1 hz2 rfl (by decide) HI6.out.row rfl HSL.out rfl (bytes_one o6) h63 hby hW5 ?_); intro A8 c8 w8 HO8 HG8 HN8)
      go_roundw
      case rel =>
        refine ⟨k + 1, tt, s6, A8, c8, o ++ o6, ha6, hc6, e6, by omega, by go_num, ht2, rfl, by rw [List.length_append], rfl, ?_, Lib.hid fun h => HTT.out.1 (Nat.succ.inj h), HE6, HGO2, Lib.hid (HI6.out.pushed HG8.out HN8.out ?_ ⟨.inl rfl, .inr rfl⟩ ⟨HS5.out.1, HS5.out.2.1⟩ HS5.out.2.2.2.2)⟩
        · rw [List.length_append, Nat.add_mul]; have := HO6.out; omega
        · rw [List.length_append, List.map_append]; exact HO8.out
      case measure => simp [intOf]; omega
    · obtain rfl : at_ = bc := by omega
      go_upto_region 18 with fail
      go_cut [14, 18] (fun v14 v18 wq => ∃ (A6 : Option Addr) (c6 : Nat) (ha6 : Option Addr) (hc6 : Nat), v14 = .int .i64 e6 ∧ v18 = .slice A6 o6.length c6 ∧ Hid (DrvK (Dx (fun k => k = db ∨ k = dc) A) dc cs2 T2 (s6, false) ha6 hc6 wq) ∧ Hid (BelD (fun k => k = dc) wr wq) ∧ Hid (wq.ownsRow wr.heap.size 5 1 (.slice A6 o6.length c6) o6.length (o6.map (Value.int .u8))) ∧ Hid (o6.length ≤ 262400))
      case first =>
        go_wp2_with fail
        all_goals
          refine (HWRT.out _ _ fun V hV => HCH.out _ ?_ V hV).mono ?_
          · intro b off e
            first
              | exact .inl ⟨e, by omega⟩
              | exact .inr (by rw [e]; simp [Addr.add])
          · rintro e w6 ⟨A6, c6, ha6, hc6, rfl, HK6, HB6, HY6, HR6, HO6⟩
            rw [HWS2.out] at HK6 HY6 HR6 HO6
            rw [HWS2.out]
            simp only at HK6 HY6 HR6 HO6 ⊢
            go_wp2_with fail
            go_meet
            exact ⟨A6, c6, ha6, hc6, rfl, rfl, HK6, HB6, HR6, HO6⟩
      case rest =>
      obtain ⟨A6, c6, ha6, hc6, rfl, rfl, HK6, HB6, HR6, HO6⟩ := hcut
      obtain ⟨w6, hw6⟩ : ∃ z, z = wc := ⟨_, rfl⟩
      subst hw6
      have HS5 : Hid (db < w5.heap.size ∧ dc < w5.heap.size ∧ db ≠ dc ∧ w.heap.size ≤ dc ∧ w.heap.size ≤ w5.heap.size) := Lib.hid (by have := HDB.out; have := HSZ.out; omega)
      have HI6 := Lib.hid (HIr.out.wrote HK6.out HB6.out (.inr rfl) HS5.out.2.2.1 HS5.out.2.1 HS5.out.2.2.2.1)
      have HSL : Hid (Sl w6 1 A6 o6.length (o6.map (Value.int .u8))) := Lib.hid (Sl.of_own HR6.out)
      have hW5 : w5.heap.size ≤ w6.heap.size := HI6.out.sz
      have ho6 := HO6.out
      have hk6 : k * 262400 ≤ 60 * 262400 := Nat.mul_le_mul_right _ (by omega)
      have h63 : o.length + o6.length ≤ maxLen := by unfold maxLen; omega
      have hby : (o.length + o6.length) * 1 ≤ 140737488355328 := by omega
      obtain ⟨i0, hi, hz0, hz1, hz2⟩ := info_parts infoByteD
      clear ho6 hk6
      go_wp2_with (at_builtin; go_must (refine wpList_append_slN _ rfl _ _ 79 rfl w5.heap.size 5 i0 _ 1 1 Tryz.underlying79 hi hz0 hz1 hz2 rfl (by decide) HI6.out.row rfl HSL.out rfl (bytes_one o6) h63 hby hW5 ?_); intro A8 c8 w8 HO8 HG8 HN8)
      go_roundw
      case rel =>
        refine ⟨k + 1, tt, s6, A8, c8, o ++ o6, ha6, hc6, e6, by omega, by go_num, ht2, rfl, by rw [List.length_append], rfl, ?_, Lib.hid fun h => HTT.out.1 (Nat.succ.inj h), HE6, HGO2, Lib.hid (HI6.out.pushed HG8.out HN8.out ?_ ⟨.inl rfl, .inr rfl⟩ ⟨HS5.out.1, HS5.out.2.1⟩ HS5.out.2.2.2.2)⟩
        · rw [List.length_append, Nat.add_mul]; have := HO6.out; omega
        · rw [List.length_append, List.map_append]; exact HO8.out
      case measure => simp [intOf]; omega
end Go.Proofs.YtlmkokeapbleoaaGreat
